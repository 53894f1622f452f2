import Derived.Test.YtbpbpkolpldimaaL0
import Derived.Test.YtbpbpkolpldimaaE1
namespace Go.Proofs.Ytbpbpkolpldimaa.AM
open Go
set_option linter.unusedVariables false
set_option linter.unusedSimpArgs false
theorem copytApart_fn (l : List (Int × Term)) (t u : Term) (g1 : ∀ d ∈ l, d.2.bulk ≤ 2 ^ 20) (g2 : t.bulk ≤ 2 ^ 20) (g3 : u.bulk ≤ 2 ^ 20) : Fn Try.prog 7 [.d (.list (l.map encBind)), .d (enc t), .d (enc u)] [] (.d (.bool true)) [] := by
  have hll : (l.map encBind).length = l.length := List.length_map _
  refine Does.run Try.func7 rfl Try.ntmps7 rfl fun K hK => ?_
  refine Runs.rseq ?_
  refine RO.opn (v' := .ref 0 0) (O' := [_]) (opv_box_term rfl) rfl rfl ?_
  refine RO.opn (v' := .ref 1 0) (O' := [_, _]) (opv_box_term rfl) rfl rfl ?_
  refine RO.opv (v' := .d (.bool false)) (opv_assign rfl) rfl ?_
  refine RO.nil ?_
  refine Runs.has [(0, .d (.list _)), (4, .ref 0 0), (5, .ref 1 0), (6, .d (.bool false))] ⟨rfl, rfl, rfl, rfl, trivial⟩ ?_
  refine Runs.rseq ?_
  refine RO.opv (v' := .d (.bool true)) (opv_callF (shown_fn) rfl rfl rfl trivial) rfl ?_
  refine RO.opv (v' := .d (.bool true)) (opv_assign rfl) rfl ?_
  refine RO.nil ?_
  refine Runs.has [(0, .d (.list _)), (4, .ref 0 0), (5, .ref 1 0), (6, .d (.bool false)), (7, .d (.bool true))] ⟨rfl, rfl, rfl, rfl, rfl, trivial⟩ ?_
  refine Runs.rseq ?_
  refine RO.opn (v' := .ref 4 0) (O' := [_, _, _, _, _]) (opv_callN 2 (new_fn) rfl rfl rfl) rfl rfl ?_
  refine RO.opv (v' := .ref 4 0) (opv_assign rfl) rfl ?_
  refine RO.nil ?_
  refine Runs.has [(0, .d (.list _)), (4, .ref 0 0), (5, .ref 1 0), (6, .d (.bool false)), (7, .d (.bool true)), (8, .ref 4 0)] ⟨rfl, rfl, rfl, rfl, rfl, rfl, trivial⟩ ?_
  refine Runs.seq ?_
  refine Runs.rseq ?_
  refine RO.opv (v' := .ref 4 0) (opv_move rfl) rfl ?_
  refine RO.opv (v' := .d (.bool false)) (opv_eqnil_ref rfl rfl rfl) rfl ?_
  refine RO.opv (v' := .d (.bool false)) (opv_move rfl) rfl ?_
  refine RO.opgv (v' := .d (enc _)) rfl (opv_load_term rfl rfl rfl) rfl ?_
  refine RO.opgv (v' := .d (.bool _)) rfl (opv_callF (few_fn t (by omega)) rfl rfl rfl trivial) rfl ?_
  refine RO.opgv (v' := .d (.bool _)) rfl (opv_not rfl rfl) rfl ?_
  refine RO.opv (v' := .d (.bool _)) (opv_pick rfl rfl) rfl ?_
  refine RO.opc (opv_move rfl) (fun h1 => ?_) (fun h1 => ?_)
  · try simp only [decide_eq_true_eq, decide_eq_false_iff_not, beq_iff_eq, beq_eq_false_iff_ne, bne_iff_ne, bne_eq_false_iff_eq, Int.not_lt, Int.not_le, ne_eq, Bool.not_eq_true', Bool.not_eq_false', gt_iff_lt, ge_iff_le] at h1
    refine RO.off rfl ?_
    refine RO.off rfl ?_
    refine RO.off rfl ?_
    refine RO.opv (v' := .d (.bool true)) (opv_pick rfl rfl) rfl ?_
    refine RO.opv (v' := .d (.bool true)) (opv_move rfl) rfl ?_
    refine RO.off rfl ?_
    refine RO.off rfl ?_
    refine RO.off rfl ?_
    refine RO.opv (v' := .d (.bool true)) (opv_pick rfl rfl) rfl ?_
    refine RO.opv (v' := .d (.bool true)) (opv_move rfl) rfl ?_
    refine RO.off rfl ?_
    refine RO.off rfl ?_
    refine RO.off rfl ?_
    refine RO.opv (v' := .d (.bool true)) (opv_pick rfl rfl) rfl ?_
    refine RO.nil ?_
    refine Runs.condT rfl ?_
    refine Runs.has [(0, .d (.list _)), (4, .ref 0 0), (6, .d (.bool false)), (7, .d (.bool true)), (8, .ref 4 0)] ⟨rfl, rfl, rfl, rfl, rfl, trivial⟩ ?_
    refine Runs.rseq ?_
    refine RO.opv (v' := .d (.bool true)) (opv_move rfl) rfl ?_
    refine RO.opv (v' := .d (.bool true)) (opv_move rfl) rfl ?_
    refine RO.opgv (v' := .ref 4 0) rfl (opv_move rfl) rfl ?_
    refine RO.opgv (v' := .d (.bool true)) rfl (opv_nenil_ref rfl rfl rfl) rfl ?_
    refine RO.opv (v' := .d (.bool true)) (opv_pick rfl rfl) rfl ?_
    refine RO.opv (v' := .d (.bool true)) (opv_assign rfl) rfl ?_
    refine RO.nil ?_
    refine Runs.ret ?_
    refine thenQ_ret ?_
    refine EndQ.tmp (.inr rfl) rfl rfl 0 (by exact Nat.le_refl _) (by exact Nat.zero_le _) trivial ⟨?_, rfl⟩
    first
      | rfl
      | (refine bool_eq ?_; rw [copy_bad he]; simp)
      | (refine bool_eq ?_; rw [hnow, same_refl])
  · try simp only [decide_eq_true_eq, decide_eq_false_iff_not, beq_iff_eq, beq_eq_false_iff_ne, bne_iff_ne, bne_eq_false_iff_eq, Int.not_lt, Int.not_le, ne_eq, Bool.not_eq_true', Bool.not_eq_false', gt_iff_lt, ge_iff_le] at h1
    refine RO.opgv (v' := .d (enc _)) rfl (opv_load_term rfl rfl rfl) rfl ?_
    refine RO.opgv (v' := .d (.bool _)) rfl (opv_callF (few_fn u (by omega)) rfl rfl rfl trivial) rfl ?_
    refine RO.opgv (v' := .d (.bool _)) rfl (opv_not rfl rfl) rfl ?_
    refine RO.opv (v' := .d (.bool _)) (opv_pick rfl rfl) rfl ?_
    refine RO.opc (opv_move rfl) (fun h2 => ?_) (fun h2 => ?_)
    · try simp only [decide_eq_true_eq, decide_eq_false_iff_not, beq_iff_eq, beq_eq_false_iff_ne, bne_iff_ne, bne_eq_false_iff_eq, Int.not_lt, Int.not_le, ne_eq, Bool.not_eq_true', Bool.not_eq_false', gt_iff_lt, ge_iff_le] at h2
      refine RO.off rfl ?_
      refine RO.off rfl ?_
      refine RO.off rfl ?_
      refine RO.opv (v' := .d (.bool true)) (opv_pick rfl rfl) rfl ?_
      refine RO.opv (v' := .d (.bool true)) (opv_move rfl) rfl ?_
      refine RO.off rfl ?_
      refine RO.off rfl ?_
      refine RO.off rfl ?_
      refine RO.opv (v' := .d (.bool true)) (opv_pick rfl rfl) rfl ?_
      refine RO.nil ?_
      refine Runs.condT rfl ?_
      refine Runs.has [(0, .d (.list _)), (4, .ref 0 0), (6, .d (.bool false)), (7, .d (.bool true)), (8, .ref 4 0)] ⟨rfl, rfl, rfl, rfl, rfl, trivial⟩ ?_
      refine Runs.rseq ?_
      refine RO.opv (v' := .d (.bool true)) (opv_move rfl) rfl ?_
      refine RO.opv (v' := .d (.bool true)) (opv_move rfl) rfl ?_
      refine RO.opgv (v' := .ref 4 0) rfl (opv_move rfl) rfl ?_
      refine RO.opgv (v' := .d (.bool true)) rfl (opv_nenil_ref rfl rfl rfl) rfl ?_
      refine RO.opv (v' := .d (.bool true)) (opv_pick rfl rfl) rfl ?_
      refine RO.opv (v' := .d (.bool true)) (opv_assign rfl) rfl ?_
      refine RO.nil ?_
      refine Runs.ret ?_
      refine thenQ_ret ?_
      refine EndQ.tmp (.inr rfl) rfl rfl 0 (by exact Nat.le_refl _) (by exact Nat.zero_le _) trivial ⟨?_, rfl⟩
      first
        | rfl
        | (refine bool_eq ?_; rw [copy_bad he]; simp)
        | (refine bool_eq ?_; rw [hnow, same_refl])
    · try simp only [decide_eq_true_eq, decide_eq_false_iff_not, beq_iff_eq, beq_eq_false_iff_ne, bne_iff_ne, bne_eq_false_iff_eq, Int.not_lt, Int.not_le, ne_eq, Bool.not_eq_true', Bool.not_eq_false', gt_iff_lt, ge_iff_le] at h2
      refine RO.opgv (v' := .d (enc _)) rfl (opv_load_term rfl rfl rfl) rfl ?_
      refine RO.opgv (v' := .d (.int _ _)) rfl (opv_callF (check_fn t 16 (by omega)) rfl rfl rfl trivial) rfl ?_
      refine RO.opgv (v' := .d (.bool _)) rfl (opv_bin rfl rfl rfl) rfl ?_
      refine RO.opv (v' := .d (.bool _)) (opv_pick rfl rfl) rfl ?_
      refine RO.opc (opv_move rfl) (fun h3 => ?_) (fun h3 => ?_)
      · try simp only [decide_eq_true_eq, decide_eq_false_iff_not, beq_iff_eq, beq_eq_false_iff_ne, bne_iff_ne, bne_eq_false_iff_eq, Int.not_lt, Int.not_le, ne_eq, Bool.not_eq_true', Bool.not_eq_false', gt_iff_lt, ge_iff_le] at h3
        refine RO.off rfl ?_
        refine RO.off rfl ?_
        refine RO.off rfl ?_
        refine RO.opv (v' := .d (.bool true)) (opv_pick rfl rfl) rfl ?_
        refine RO.nil ?_
        refine Runs.condT rfl ?_
        refine Runs.has [(0, .d (.list _)), (4, .ref 0 0), (6, .d (.bool false)), (7, .d (.bool true)), (8, .ref 4 0)] ⟨rfl, rfl, rfl, rfl, rfl, trivial⟩ ?_
        refine Runs.rseq ?_
        refine RO.opv (v' := .d (.bool true)) (opv_move rfl) rfl ?_
        refine RO.opv (v' := .d (.bool true)) (opv_move rfl) rfl ?_
        refine RO.opgv (v' := .ref 4 0) rfl (opv_move rfl) rfl ?_
        refine RO.opgv (v' := .d (.bool true)) rfl (opv_nenil_ref rfl rfl rfl) rfl ?_
        refine RO.opv (v' := .d (.bool true)) (opv_pick rfl rfl) rfl ?_
        refine RO.opv (v' := .d (.bool true)) (opv_assign rfl) rfl ?_
        refine RO.nil ?_
        refine Runs.ret ?_
        refine thenQ_ret ?_
        refine EndQ.tmp (.inr rfl) rfl rfl 0 (by exact Nat.le_refl _) (by exact Nat.zero_le _) trivial ⟨?_, rfl⟩
        first
          | rfl
          | (refine bool_eq ?_; rw [copy_bad he]; simp)
          | (refine bool_eq ?_; rw [hnow, same_refl])
      · try simp only [decide_eq_true_eq, decide_eq_false_iff_not, beq_iff_eq, beq_eq_false_iff_ne, bne_iff_ne, bne_eq_false_iff_eq, Int.not_lt, Int.not_le, ne_eq, Bool.not_eq_true', Bool.not_eq_false', gt_iff_lt, ge_iff_le] at h3
        refine RO.opgv (v' := .d (enc _)) rfl (opv_load_term rfl rfl rfl) rfl ?_
        refine RO.opgv (v' := .d (.bool _)) rfl (opv_callF (low_fn t (by omega)) rfl rfl rfl trivial) rfl ?_
        refine RO.opgv (v' := .d (.bool _)) rfl (opv_not rfl rfl) rfl ?_
        refine RO.opc (opv_pick rfl rfl) (fun h4 => ?_) (fun h4 => ?_)
        · try simp only [decide_eq_true_eq, decide_eq_false_iff_not, beq_iff_eq, beq_eq_false_iff_ne, bne_iff_ne, bne_eq_false_iff_eq, Int.not_lt, Int.not_le, ne_eq, Bool.not_eq_true', Bool.not_eq_false', gt_iff_lt, ge_iff_le] at h4
          skip
          refine RO.nil ?_
          refine Runs.condT rfl ?_
          refine Runs.has [(0, .d (.list _)), (4, .ref 0 0), (6, .d (.bool false)), (7, .d (.bool true)), (8, .ref 4 0)] ⟨rfl, rfl, rfl, rfl, rfl, trivial⟩ ?_
          refine Runs.rseq ?_
          refine RO.opv (v' := .d (.bool true)) (opv_move rfl) rfl ?_
          refine RO.opv (v' := .d (.bool true)) (opv_move rfl) rfl ?_
          refine RO.opgv (v' := .ref 4 0) rfl (opv_move rfl) rfl ?_
          refine RO.opgv (v' := .d (.bool true)) rfl (opv_nenil_ref rfl rfl rfl) rfl ?_
          refine RO.opv (v' := .d (.bool true)) (opv_pick rfl rfl) rfl ?_
          refine RO.opv (v' := .d (.bool true)) (opv_assign rfl) rfl ?_
          refine RO.nil ?_
          refine Runs.ret ?_
          refine thenQ_ret ?_
          refine EndQ.tmp (.inr rfl) rfl rfl 0 (by exact Nat.le_refl _) (by exact Nat.zero_le _) trivial ⟨?_, rfl⟩
          first
            | rfl
            | (refine bool_eq ?_; rw [copy_bad he]; simp)
            | (refine bool_eq ?_; rw [hnow, same_refl])
        · try simp only [decide_eq_true_eq, decide_eq_false_iff_not, beq_iff_eq, beq_eq_false_iff_ne, bne_iff_ne, bne_eq_false_iff_eq, Int.not_lt, Int.not_le, ne_eq, Bool.not_eq_true', Bool.not_eq_false', gt_iff_lt, ge_iff_le] at h4
          have hlow := h4
          refine RO.nil ?_
          refine Runs.condF rfl ?_
          refine Runs.skip ?_
          refine thenQ_normal ?_
          refine Runs.has [(0, .d (.list _)), (4, .ref 0 0), (6, .d (.bool false)), (7, .d (.bool true)), (8, .ref 4 0)] ⟨rfl, rfl, rfl, rfl, rfl, trivial⟩ ?_
          refine Runs.rseq ?_
          refine RO.opv (v' := .ref 4 0) (opv_move rfl) rfl ?_
          refine RO.opn (O' := [_, _, _, _, _]) (opv_callS 2 3 (fresh_fn e0 12 (Nat.zero_le _)) rfl rfl rfl (Nat.le_of_ble_eq_true rfl) rfl (AV.bds_of_B _ rfl)) rfl rfl ?_
          refine RO.nil ?_
          refine Runs.has [(0, .d (.list _)), (4, .ref 0 0), (6, .d (.bool false)), (7, .d (.bool true)), (8, .ref 4 0)] ⟨rfl, rfl, rfl, rfl, rfl, trivial⟩ ?_
          refine Runs.seq ?_
          refine Runs.rseq ?_
          refine RO.opv (v' := .d (.int _ _)) (opv_assign rfl) rfl ?_
          refine RO.nil ?_
          refine Runs.block ?_
          refine Runs.loopC (X := (Nat × St)) (fun x => x.1 ≤ l.length ∧ x.1 ≤ 20 ∧ x.2.Ok (2 ^ 20) ∧ x.2.cs.length = 12 ∧ x.2.lowS) (fun x => l.length - x.1) [(0, .d (.list _)), (4, .ref 0 0), (6, .d (.bool false)), (7, .d (.bool true)), (8, .ref 4 0)] (fun x => [(9, .d (.int .i64 (x.1 : Nat)))]) [_, _] (fun x => [.buf 70 5 (encCells (x.2).cs) (x.2).v1, .buf 3 1 (ints (x.2).tr) (x.2).v2, .cells [.own 2 (x.2).v1, .own 3 (x.2).v2]]) (((0 : Nat), (e0.fresh 12).1)) ⟨rfl, rfl, rfl, rfl, rfl, trivial⟩ ⟨rfl, trivial⟩ rfl ⟨Nat.zero_le _, Nat.zero_le _, e0_ok.fresh 12, by decide +kernel, fun n u hn => by rw [fresh_at] at hn; simp [St.at, e0] at hn⟩ fun x hi => ?_
          refine Runs.seq ?_
          refine Runs.rseq ?_
          refine RO.opv (v' := .d (.int _ _)) (opv_move rfl) rfl ?_
          refine RO.opv (v' := .d (.list _)) (opv_move rfl) rfl ?_
          refine RO.opv (v' := .d (.int _ _)) (opv_len rfl rfl rfl) rfl ?_
          refine RO.opv (v' := .d (.bool _)) (opv_bin rfl rfl rfl) rfl ?_
          refine RO.opc (opv_move rfl) (fun h5 => ?_) (fun h5 => ?_)
          · try simp only [decide_eq_true_eq, decide_eq_false_iff_not, beq_iff_eq, beq_eq_false_iff_ne, bne_iff_ne, bne_eq_false_iff_eq, Int.not_lt, Int.not_le, ne_eq, Bool.not_eq_true', Bool.not_eq_false', gt_iff_lt, ge_iff_le] at h5
            have hk : x.1 < l.length := by omega
            refine RO.opgv (v' := .d (.int _ _)) rfl (opv_move rfl) rfl ?_
            refine RO.opgv (v' := .d (.bool _)) rfl (opv_bin rfl rfl rfl) rfl ?_
            refine RO.opc (opv_pick rfl rfl) (fun h6 => ?_) (fun h6 => ?_)
            · try simp only [decide_eq_true_eq, decide_eq_false_iff_not, beq_iff_eq, beq_eq_false_iff_ne, bne_iff_ne, bne_eq_false_iff_eq, Int.not_lt, Int.not_le, ne_eq, Bool.not_eq_true', Bool.not_eq_false', gt_iff_lt, ge_iff_le] at h6
              refine RO.nil ?_
              refine Runs.condT rfl ?_
              refine Runs.skip ?_
              refine thenQ_normal ?_
              refine Runs.has [(0, .d (.list _)), (4, .ref 0 0), (6, .d (.bool false)), (7, .d (.bool true)), (8, .ref 4 0), (9, .d (.int _ _))] ⟨rfl, rfl, rfl, rfl, rfl, rfl, trivial⟩ ?_
              refine Runs.seq ?_
              refine Runs.block ?_
              refine Runs.rseq ?_
              refine RO.opv (v' := .d (.list _)) (opv_move rfl) rfl ?_
              refine RO.opv (v' := .d (.int _ _)) (opv_move rfl) rfl ?_
              refine RO.opv (v' := .d (.ptr _)) (opv_index_list (y := encBind (l[x.1]'hk)) rfl rfl (Int.natCast_nonneg _) (by simp [hk]) rfl) rfl ?_
              refine RO.opv (v' := .d (.ptr _)) (opv_field_ptr rfl) rfl ?_
              refine RO.opv (v' := .d (enc _)) (opv_load_pterm (u := (l[x.1]'hk).2) rfl) rfl ?_
              refine RO.opv (v' := .d (.bool _)) (opv_callF (few_fn (l[x.1]'hk).2 (by have := g1 _ (List.getElem_mem hk); omega)) rfl rfl rfl trivial) rfl ?_
              refine RO.opc (opv_move rfl) (fun h7 => ?_) (fun h7 => ?_)
              · try simp only [decide_eq_true_eq, decide_eq_false_iff_not, beq_iff_eq, beq_eq_false_iff_ne, bne_iff_ne, bne_eq_false_iff_eq, Int.not_lt, Int.not_le, ne_eq, Bool.not_eq_true', Bool.not_eq_false', gt_iff_lt, ge_iff_le] at h7
                refine RO.opgv (v' := .d (.list _)) rfl (opv_move rfl) rfl ?_
                refine RO.opgv (v' := .d (.int _ _)) rfl (opv_move rfl) rfl ?_
                refine RO.opgv (v' := .d (.ptr _)) rfl (opv_index_list (y := encBind (l[x.1]'hk)) rfl rfl (Int.natCast_nonneg _) (by simp [hk]) rfl) rfl ?_
                refine RO.opgv (v' := .d (.ptr _)) rfl (opv_field_ptr rfl) rfl ?_
                refine RO.opgv (v' := .d (enc _)) rfl (opv_load_pterm (u := (l[x.1]'hk).2) rfl) rfl ?_
                refine RO.opgv (v' := .d (.int _ _)) rfl (opv_callF (check_fn (l[x.1]'hk).2 16 (by have := g1 _ (List.getElem_mem hk); omega)) rfl rfl rfl trivial) rfl ?_
                refine RO.opgv (v' := .d (.bool _)) rfl (opv_bin rfl rfl rfl) rfl ?_
                refine RO.opv (v' := .d (.bool _)) (opv_pick rfl rfl) rfl ?_
                refine RO.opc (opv_move rfl) (fun h8 => ?_) (fun h8 => ?_)
                · try simp only [decide_eq_true_eq, decide_eq_false_iff_not, beq_iff_eq, beq_eq_false_iff_ne, bne_iff_ne, bne_eq_false_iff_eq, Int.not_lt, Int.not_le, ne_eq, Bool.not_eq_true', Bool.not_eq_false', gt_iff_lt, ge_iff_le] at h8
                  refine RO.opgv (v' := .d (.list _)) rfl (opv_move rfl) rfl ?_
                  refine RO.opgv (v' := .d (.int _ _)) rfl (opv_move rfl) rfl ?_
                  refine RO.opgv (v' := .d (.ptr _)) rfl (opv_index_list (y := encBind (l[x.1]'hk)) rfl rfl (Int.natCast_nonneg _) (by simp [hk]) rfl) rfl ?_
                  refine RO.opgv (v' := .d (.ptr _)) rfl (opv_field_ptr rfl) rfl ?_
                  refine RO.opgv (v' := .d (enc _)) rfl (opv_load_pterm (u := (l[x.1]'hk).2) rfl) rfl ?_
                  refine RO.opgv (v' := .d (.bool _)) rfl (opv_callF (low_fn (l[x.1]'hk).2 (by have := g1 _ (List.getElem_mem hk); omega)) rfl rfl rfl trivial) rfl ?_
                  refine RO.opc (opv_pick rfl rfl) (fun h9 => ?_) (fun h9 => ?_)
                  · try simp only [decide_eq_true_eq, decide_eq_false_iff_not, beq_iff_eq, beq_eq_false_iff_ne, bne_iff_ne, bne_eq_false_iff_eq, Int.not_lt, Int.not_le, ne_eq, Bool.not_eq_true', Bool.not_eq_false', gt_iff_lt, ge_iff_le] at h9
                    have hlw := h9
                    refine RO.nil ?_
                    refine Runs.condT rfl ?_
                    refine Runs.has [(0, .d (.list _)), (4, .ref 0 0), (6, .d (.bool false)), (7, .d (.bool true)), (8, .ref 4 0), (9, .d (.int _ _))] ⟨rfl, rfl, rfl, rfl, rfl, rfl, trivial⟩ ?_
                    refine Runs.drawn (by kernel_rfl) [] [false, false, false, false, false, false, false, false, false, false, false, false] [false, false, false, false, false, false, false, false, false, false, false, true] (by decide +kernel) ?_
                    refine RD.opv (v' := .ref 4 0) (opv_move rfl) rfl ?_
                    refine RD.opv (v' := .d (.list _)) (opv_move rfl) rfl ?_
                    refine RD.opv (v' := .d (.int _ _)) (opv_move rfl) rfl ?_
                    refine RD.opv (v' := .d (.ptr _)) (opv_index_list (y := encBind (l[x.1]'hk)) rfl rfl (Int.natCast_nonneg _) (by simp [hk]) rfl) rfl ?_
                    refine RD.opv (v' := .d (.ptr _)) (opv_field_ptr rfl) rfl ?_
                    refine RD.opv (v' := .d (.int _ _)) (opv_load_ptr rfl rfl) rfl ?_
                    refine RD.opv (v' := .d (.list _)) (opv_move rfl) rfl ?_
                    refine RD.opv (v' := .d (.int _ _)) (opv_move rfl) rfl ?_
                    refine RD.opv (v' := .d (.ptr _)) (opv_index_list (y := encBind (l[x.1]'hk)) rfl rfl (Int.natCast_nonneg _) (by simp [hk]) rfl) rfl ?_
                    refine RD.opv (v' := .d (.ptr _)) (opv_field_ptr rfl) rfl ?_
                    refine RD.opv (v' := .d (enc _)) (opv_load_pterm (u := (l[x.1]'hk).2) rfl) rfl ?_
                    refine RD.opn (v' := .d (.int _ _)) (O' := [_, _, _, _, _]) (opv_callS 2 3 (bind_fn x.2 (l[x.1]'hk).1 (l[x.1]'hk).2 (hi.2.2.1.small' (Nat.le_of_ble_eq_true rfl)) (by have := g1 _ (List.getElem_mem hk); omega) (Nat.le_trans hi.2.2.1.len (Nat.le_of_ble_eq_true rfl)) (Nat.lt_of_le_of_lt hi.2.2.1.trl (Nat.lt_of_sub_pos (by decide)))) rfl rfl rfl (Nat.le_of_ble_eq_true rfl) rfl (AV.bds_of_B _ rfl)) rfl rfl trivial ?_
                    refine RD.nil ?_
                    refine blockQ_normal ?_
                    refine thenQ_normal ?_
                    refine Runs.has [(0, .d (.list _)), (4, .ref 0 0), (6, .d (.bool false)), (7, .d (.bool true)), (8, .ref 4 0), (9, .d (.int _ _))] ⟨rfl, rfl, rfl, rfl, rfl, rfl, trivial⟩ ?_
                    refine Runs.region ?_
                    refine RO.opv (v' := .d (.int _ _)) (opv_move rfl) rfl ?_
                    refine RO.opv (v' := .d (.int _ _)) (opv_arith rfl rfl (binD_add (r := ((x.1 + 1 : Nat) : Int)) (by refine (wrap64 ?_ ?_).trans ?_ <;> omega))) rfl ?_
                    refine RO.opv (v' := .d (.int _ _)) (opv_assign rfl) rfl ?_
                    refine RO.nil ?_
                    refine thenQ_normal ?_
                    refine ⟨(x.1 + 1, (x.2.bind (l[x.1]'hk).1 (l[x.1]'hk).2).1), 5, (by rw [hK]; exact Nat.le_of_ble_eq_true rfl), ⟨rfl, rfl, rfl, rfl, rfl, trivial⟩, ⟨?_, trivial⟩, rfl, ?_, ?_⟩
                    · rfl
                    · exact ⟨hk, by show x.1 + 1 ≤ 20; omega, hi.2.2.1.bind _ _ (g1 _ (List.getElem_mem hk)), by show (x.2.bind _ _).1.cs.length = 12; rw [bind_len]; exact hi.2.2.2.1, bind_lowS hi.2.2.2.2 (low_iff.1 hlw)⟩
                    · show l.length - (x.1 + 1) < _; omega
                  · try simp only [decide_eq_true_eq, decide_eq_false_iff_not, beq_iff_eq, beq_eq_false_iff_ne, bne_iff_ne, bne_eq_false_iff_eq, Int.not_lt, Int.not_le, ne_eq, Bool.not_eq_true', Bool.not_eq_false', gt_iff_lt, ge_iff_le] at h9
                    skip
                    refine RO.nil ?_
                    refine Runs.condF rfl ?_
                    refine Runs.skip ?_
                    refine blockQ_normal ?_
                    refine thenQ_normal ?_
                    refine Runs.has [(0, .d (.list _)), (4, .ref 0 0), (6, .d (.bool false)), (7, .d (.bool true)), (8, .ref 4 0), (9, .d (.int _ _))] ⟨rfl, rfl, rfl, rfl, rfl, rfl, trivial⟩ ?_
                    refine Runs.region ?_
                    refine RO.opv (v' := .d (.int _ _)) (opv_move rfl) rfl ?_
                    refine RO.opv (v' := .d (.int _ _)) (opv_arith rfl rfl (binD_add (r := ((x.1 + 1 : Nat) : Int)) (by refine (wrap64 ?_ ?_).trans ?_ <;> omega))) rfl ?_
                    refine RO.opv (v' := .d (.int _ _)) (opv_assign rfl) rfl ?_
                    refine RO.nil ?_
                    refine thenQ_normal ?_
                    refine ⟨(x.1 + 1, x.2), 5, (by rw [hK]; exact Nat.le_of_ble_eq_true rfl), ⟨rfl, rfl, rfl, rfl, rfl, trivial⟩, ⟨?_, trivial⟩, rfl, ?_, ?_⟩
                    · rfl
                    · exact ⟨hk, by show x.1 + 1 ≤ 20; omega, hi.2.2⟩
                    · show l.length - (x.1 + 1) < _; omega
                · try simp only [decide_eq_true_eq, decide_eq_false_iff_not, beq_iff_eq, beq_eq_false_iff_ne, bne_iff_ne, bne_eq_false_iff_eq, Int.not_lt, Int.not_le, ne_eq, Bool.not_eq_true', Bool.not_eq_false', gt_iff_lt, ge_iff_le] at h8
                  refine RO.off rfl ?_
                  refine RO.off rfl ?_
                  refine RO.off rfl ?_
                  refine RO.off rfl ?_
                  refine RO.off rfl ?_
                  refine RO.off rfl ?_
                  refine RO.opv (v' := .d (.bool false)) (opv_pick rfl rfl) rfl ?_
                  refine RO.nil ?_
                  refine Runs.condF rfl ?_
                  refine Runs.skip ?_
                  refine blockQ_normal ?_
                  refine thenQ_normal ?_
                  refine Runs.has [(0, .d (.list _)), (4, .ref 0 0), (6, .d (.bool false)), (7, .d (.bool true)), (8, .ref 4 0), (9, .d (.int _ _))] ⟨rfl, rfl, rfl, rfl, rfl, rfl, trivial⟩ ?_
                  refine Runs.region ?_
                  refine RO.opv (v' := .d (.int _ _)) (opv_move rfl) rfl ?_
                  refine RO.opv (v' := .d (.int _ _)) (opv_arith rfl rfl (binD_add (r := ((x.1 + 1 : Nat) : Int)) (by refine (wrap64 ?_ ?_).trans ?_ <;> omega))) rfl ?_
                  refine RO.opv (v' := .d (.int _ _)) (opv_assign rfl) rfl ?_
                  refine RO.nil ?_
                  refine thenQ_normal ?_
                  refine ⟨(x.1 + 1, x.2), 5, (by rw [hK]; exact Nat.le_of_ble_eq_true rfl), ⟨rfl, rfl, rfl, rfl, rfl, trivial⟩, ⟨?_, trivial⟩, rfl, ?_, ?_⟩
                  · rfl
                  · exact ⟨hk, by show x.1 + 1 ≤ 20; omega, hi.2.2⟩
                  · show l.length - (x.1 + 1) < _; omega
              · try simp only [decide_eq_true_eq, decide_eq_false_iff_not, beq_iff_eq, beq_eq_false_iff_ne, bne_iff_ne, bne_eq_false_iff_eq, Int.not_lt, Int.not_le, ne_eq, Bool.not_eq_true', Bool.not_eq_false', gt_iff_lt, ge_iff_le] at h7
                refine RO.off rfl ?_
                refine RO.off rfl ?_
                refine RO.off rfl ?_
                refine RO.off rfl ?_
                refine RO.off rfl ?_
                refine RO.off rfl ?_
                refine RO.off rfl ?_
                refine RO.opv (v' := .d (.bool false)) (opv_pick rfl rfl) rfl ?_
                refine RO.opv (v' := .d (.bool false)) (opv_move rfl) rfl ?_
                refine RO.off rfl ?_
                refine RO.off rfl ?_
                refine RO.off rfl ?_
                refine RO.off rfl ?_
                refine RO.off rfl ?_
                refine RO.off rfl ?_
                refine RO.opv (v' := .d (.bool false)) (opv_pick rfl rfl) rfl ?_
                refine RO.nil ?_
                refine Runs.condF rfl ?_
                refine Runs.skip ?_
                refine blockQ_normal ?_
                refine thenQ_normal ?_
                refine Runs.has [(0, .d (.list _)), (4, .ref 0 0), (6, .d (.bool false)), (7, .d (.bool true)), (8, .ref 4 0), (9, .d (.int _ _))] ⟨rfl, rfl, rfl, rfl, rfl, rfl, trivial⟩ ?_
                refine Runs.region ?_
                refine RO.opv (v' := .d (.int _ _)) (opv_move rfl) rfl ?_
                refine RO.opv (v' := .d (.int _ _)) (opv_arith rfl rfl (binD_add (r := ((x.1 + 1 : Nat) : Int)) (by refine (wrap64 ?_ ?_).trans ?_ <;> omega))) rfl ?_
                refine RO.opv (v' := .d (.int _ _)) (opv_assign rfl) rfl ?_
                refine RO.nil ?_
                refine thenQ_normal ?_
                refine ⟨(x.1 + 1, x.2), 5, (by rw [hK]; exact Nat.le_of_ble_eq_true rfl), ⟨rfl, rfl, rfl, rfl, rfl, trivial⟩, ⟨?_, trivial⟩, rfl, ?_, ?_⟩
                · rfl
                · exact ⟨hk, by show x.1 + 1 ≤ 20; omega, hi.2.2⟩
                · show l.length - (x.1 + 1) < _; omega
            · try simp only [decide_eq_true_eq, decide_eq_false_iff_not, beq_iff_eq, beq_eq_false_iff_ne, bne_iff_ne, bne_eq_false_iff_eq, Int.not_lt, Int.not_le, ne_eq, Bool.not_eq_true', Bool.not_eq_false', gt_iff_lt, ge_iff_le] at h6
              refine RO.nil ?_
              refine Runs.condF rfl ?_
              refine Runs.exit ?_
              refine thenQ_exit ?_
              refine thenQ_exit ?_
              refine blockQ_here ?_
              refine thenQ_normal ?_
              refine Runs.has [(4, .ref 0 0), (6, .d (.bool false)), (7, .d (.bool true)), (8, .ref 4 0)] ⟨rfl, rfl, rfl, rfl, trivial⟩ ?_
              have hok := hi.2.2.1
              have hfb := full_bulk (t := t) hok.small g2
              refine Runs.rseq ?_
              refine RO.opv (v' := .ref 4 0) (opv_move rfl) rfl ?_
              refine RO.opv (v' := .d (enc _)) (opv_load_term rfl rfl rfl) rfl ?_
              refine RO.opn (O' := [_, _, _, _, _]) (opv_callS 2 3 (full_fn x.2 t (hok.small' (Nat.le_of_ble_eq_true rfl)) hok.ends (by omega)) rfl rfl rfl (Nat.le_of_ble_eq_true rfl) rfl (AV.bds_of_B _ rfl)) rfl rfl ?_
              refine RO.opv (opv_move rfl) rfl ?_
              refine RO.opv (v' := .d (enc _)) (opv_extract rfl rfl) rfl ?_
              refine RO.opv (v' := .d (.int _ _)) (opv_extract rfl rfl) rfl ?_
              refine RO.opn (v' := .ref 5 0) (O' := [_, _, _, _, _, _]) (opv_alloc) rfl rfl ?_
              refine RO.op0n (O' := [_, _, _, _, _, _]) (opv_store_term rfl rfl rfl (Nat.le_of_ble_eq_true rfl)) rfl ?_
              refine RO.opv (v' := .d (.int _ _)) (opv_assign rfl) rfl ?_
              refine RO.nil ?_
              refine Runs.has [(4, .ref 0 0), (6, .d (.bool false)), (7, .d (.bool true)), (8, .ref 4 0), (10, .ref 5 0), (11, .d (.int _ _))] ⟨rfl, rfl, rfl, rfl, rfl, rfl, trivial⟩ ?_
              refine Runs.rseq ?_
              refine RO.opv (v' := .ref 4 0) (opv_move rfl) rfl ?_
              refine RO.opv (v' := .d (enc _)) (opv_load_term rfl rfl rfl) rfl ?_
              refine RO.opn (O' := [_, _, _, _, _, _]) (opv_callS 2 3 (copy_fn x.2 t (hok.small' (Nat.le_of_ble_eq_true rfl)) hok.ends hok.len (by omega) hfb) rfl rfl rfl (Nat.le_of_ble_eq_true rfl) rfl (AV.bds_of_B _ rfl)) rfl rfl ?_
              refine RO.opv (opv_move rfl) rfl ?_
              refine RO.opv (v' := .d (enc _)) (opv_extract rfl rfl) rfl ?_
              refine RO.opv (v' := .d (.int _ _)) (opv_extract rfl rfl) rfl ?_
              refine RO.opn (v' := .ref 6 0) (O' := [_, _, _, _, _, _, _]) (opv_alloc) rfl rfl ?_
              refine RO.op0n (O' := [_, _, _, _, _, _, _]) (opv_store_term rfl rfl rfl (Nat.le_of_ble_eq_true rfl)) rfl ?_
              refine RO.opv (v' := .d (.int _ _)) (opv_assign rfl) rfl ?_
              refine RO.nil ?_
              refine Runs.has [(4, .ref 0 0), (6, .d (.bool false)), (7, .d (.bool true)), (8, .ref 4 0), (10, .ref 5 0), (11, .d (.int _ _)), (12, .ref 6 0), (13, .d (.int _ _))] ⟨rfl, rfl, rfl, rfl, rfl, rfl, rfl, rfl, trivial⟩ ?_
              refine Runs.seq ?_
              refine Runs.rseq ?_
              refine RO.opv (v' := .d (.int _ _)) (opv_move rfl) rfl ?_
              refine RO.opv (v' := .d (.bool _)) (opv_bin rfl rfl rfl) rfl ?_
              refine RO.opc (opv_move rfl) (fun h10 => ?_) (fun h10 => ?_)
              · try simp only [decide_eq_true_eq, decide_eq_false_iff_not, beq_iff_eq, beq_eq_false_iff_ne, bne_iff_ne, bne_eq_false_iff_eq, Int.not_lt, Int.not_le, ne_eq, Bool.not_eq_true', Bool.not_eq_false', gt_iff_lt, ge_iff_le] at h10
                have he := h10
                refine RO.off rfl ?_
                refine RO.off rfl ?_
                refine RO.opv (v' := .d (.bool true)) (opv_pick rfl rfl) rfl ?_
                refine RO.nil ?_
                refine Runs.condT rfl ?_
                refine Runs.has [(4, .ref 0 0), (6, .d (.bool false)), (7, .d (.bool true)), (8, .ref 4 0), (10, .ref 5 0), (11, .d (.int _ _)), (12, .ref 6 0), (13, .d (.int _ _))] ⟨rfl, rfl, rfl, rfl, rfl, rfl, rfl, rfl, trivial⟩ ?_
                refine Runs.rseq ?_
                refine RO.opv (v' := .d (.bool true)) (opv_move rfl) rfl ?_
                refine RO.opv (v' := .d (.bool true)) (opv_move rfl) rfl ?_
                refine RO.opgv (v' := .d (.int _ _)) rfl (opv_move rfl) rfl ?_
                refine RO.opgv (v' := .d (.int _ _)) rfl (opv_move rfl) rfl ?_
                refine RO.opgv (v' := .d (.bool _)) rfl (opv_bin rfl rfl rfl) rfl ?_
                refine RO.opv (v' := .d (.bool _)) (opv_pick rfl rfl) rfl ?_
                refine RO.opv (v' := .d (.bool _)) (opv_assign rfl) rfl ?_
                refine RO.nil ?_
                refine Runs.ret ?_
                refine thenQ_ret ?_
                refine EndQ.tmp (.inr rfl) rfl rfl 0 (by exact Nat.le_refl _) (by exact Nat.zero_le _) trivial ⟨?_, rfl⟩
                first
                  | rfl
                  | (refine bool_eq ?_; rw [copy_bad he]; simp)
                  | (refine bool_eq ?_; rw [hnow, same_refl])
              · try simp only [decide_eq_true_eq, decide_eq_false_iff_not, beq_iff_eq, beq_eq_false_iff_ne, bne_iff_ne, bne_eq_false_iff_eq, Int.not_lt, Int.not_le, ne_eq, Bool.not_eq_true', Bool.not_eq_false', gt_iff_lt, ge_iff_le] at h10
                have he : (x.2.full t).2 = 0 := by omega
                obtain ⟨hF, hd, hz, _⟩ := full_spec hok.small g2 he
                have hcp := copy_ok (s := x.2) (t := t) hi.2.2.2.1 he hz
                have hcb : (copyT x.2 t).1.bulk = (x.2.full t).1.bulk := by rw [hcp.1]; show (Term.shift _ _).bulk = _; rw [shift_bulk, norm_bulk]
                have hcv := copy_vars hz
                have hcv2 : (copyT x.2 t).1.vars = (ups (x.2.full t).1.vars.length).map (fun n => n + 12) := by rw [hcp.1]; exact hcv
                have hcl : (copyT x.2 t).1.vars.length = (x.2.full t).1.vars.length := by rw [hcv2, List.length_map, ups_len]
                have hvs := vars_size (x.2.full t).1
                have hok2 : (copyS x.2 t).Ok (2 ^ 20) := by rw [hcp.2]; exact hok.fresh _
                refine RO.opgv (v' := .d (.int _ _)) rfl (opv_move rfl) rfl ?_
                refine RO.opgv (v' := .d (.bool _)) rfl (opv_bin rfl rfl rfl) rfl ?_
                refine RO.opc (opv_pick rfl rfl) (fun h11 => ?_) (fun h11 => ?_)
                · try simp only [decide_eq_true_eq, decide_eq_false_iff_not, beq_iff_eq, beq_eq_false_iff_ne, bne_iff_ne, bne_eq_false_iff_eq, Int.not_lt, Int.not_le, ne_eq, Bool.not_eq_true', Bool.not_eq_false', gt_iff_lt, ge_iff_le] at h11
                  first | exact absurd (by rw [hcp.1]) h11
                · try simp only [decide_eq_true_eq, decide_eq_false_iff_not, beq_iff_eq, beq_eq_false_iff_ne, bne_iff_ne, bne_eq_false_iff_eq, Int.not_lt, Int.not_le, ne_eq, Bool.not_eq_true', Bool.not_eq_false', gt_iff_lt, ge_iff_le] at h11
                  refine RO.nil ?_
                  refine Runs.condF rfl ?_
                  refine Runs.skip ?_
                  refine thenQ_normal ?_
                  refine Runs.has [(4, .ref 0 0), (6, .d (.bool false)), (7, .d (.bool true)), (8, .ref 4 0), (10, .ref 5 0), (12, .ref 6 0)] ⟨rfl, rfl, rfl, rfl, rfl, rfl, trivial⟩ ?_
                  refine Runs.rseq ?_
                  refine RO.opv (v' := .d (enc _)) (opv_load_term rfl rfl rfl) rfl ?_
                  refine RO.opv (v' := .d (.list (ints _))) (opv_callF (vars_fn (copyT x.2 t).1 (by rw [hcb]; exact hfb)) rfl rfl rfl trivial) rfl ?_
                  refine RO.opv (v' := .d (.list (ints _))) (opv_assign rfl) rfl ?_
                  refine RO.nil ?_
                  refine Runs.has [(4, .ref 0 0), (6, .d (.bool false)), (7, .d (.bool true)), (8, .ref 4 0), (10, .ref 5 0), (12, .ref 6 0), (14, .d (.list (ints _)))] ⟨rfl, rfl, rfl, rfl, rfl, rfl, rfl, trivial⟩ ?_
                  refine Runs.seq ?_
                  refine Runs.rseq ?_
                  refine RO.opv (v' := .d (.int _ _)) (opv_assign rfl) rfl ?_
                  refine RO.nil ?_
                  refine Runs.block ?_
                  refine Runs.loopC (X := (Nat × St)) (fun y => y.1 ≤ (copyT x.2 t).1.vars.length ∧ y.2.Ok (2 ^ 20) ∧ ∀ j : Int, j < 12 → y.2.at j = x.2.at j) (fun y => (copyT x.2 t).1.vars.length - y.1) [(4, .ref 0 0), (7, .d (.bool true)), (8, .ref 4 0), (10, .ref 5 0), (12, .ref 6 0), (14, .d (.list (ints _)))] (fun y => [(15, .d (.int .i64 (y.1 : Nat)))]) [_, _] (fun y => [.buf 70 5 (encCells (y.2).cs) (y.2).v1, .buf 3 1 (ints (y.2).tr) (y.2).v2, .cells [.own 2 (y.2).v1, .own 3 (y.2).v2], .cells (cellsT (x.2.full t).1), .cells (cellsT (copyT x.2 t).1)]) (((0 : Nat), (copyS x.2 t))) ⟨rfl, rfl, rfl, rfl, rfl, rfl, trivial⟩ ⟨rfl, trivial⟩ rfl ⟨Nat.zero_le _, hok2, fun j hj => by show (copyS x.2 t).at j = _; rw [hcp.2, fresh_at]⟩ fun y hj => ?_
                  refine Runs.seq ?_
                  refine Runs.rseq ?_
                  refine RO.opv (v' := .d (.int _ _)) (opv_move rfl) rfl ?_
                  refine RO.opv (v' := .d (.list (ints _))) (opv_move rfl) rfl ?_
                  refine RO.opv (v' := .d (.int _ _)) (opv_len_ints rfl) rfl ?_
                  refine RO.opc (opv_bin rfl rfl rfl) (fun h12 => ?_) (fun h12 => ?_)
                  · try simp only [decide_eq_true_eq, decide_eq_false_iff_not, beq_iff_eq, beq_eq_false_iff_ne, bne_iff_ne, bne_eq_false_iff_eq, Int.not_lt, Int.not_le, ne_eq, Bool.not_eq_true', Bool.not_eq_false', gt_iff_lt, ge_iff_le] at h12
                    have hk2 : y.1 < (copyT x.2 t).1.vars.length := by omega
                    have hvi : ((copyT x.2 t).1.vars[y.1]'hk2) = (y.1 : Int) + 12 := by simp only [hcv2, List.getElem_map]; rw [ups_get]
                    refine RO.nil ?_
                    refine Runs.condT rfl ?_
                    refine Runs.skip ?_
                    refine thenQ_normal ?_
                    refine Runs.has [(4, .ref 0 0), (7, .d (.bool true)), (8, .ref 4 0), (10, .ref 5 0), (12, .ref 6 0), (14, .d (.list (ints _))), (15, .d (.int _ _))] ⟨rfl, rfl, rfl, rfl, rfl, rfl, rfl, trivial⟩ ?_
                    refine Runs.seq ?_
                    refine Runs.block ?_
                    refine Runs.seq ?_
                    refine Runs.rseq ?_
                    refine RO.opv (v' := .d (.list (ints _))) (opv_move rfl) rfl ?_
                    refine RO.opv (v' := .d (.int _ _)) (opv_move rfl) rfl ?_
                    refine RO.opv (v' := .d (.ptr _)) (opv_index_ints rfl rfl (by omega)) rfl ?_
                    refine RO.opv (v' := .d (.int _ _)) (opv_load_ptr rfl rfl) rfl ?_
                    refine RO.opv (v' := .d (.int _ _)) (opv_move rfl) rfl ?_
                    refine RO.opv (v' := .d (.int _ _)) (opv_arith rfl rfl (binD_add (r := 12 + (y.1 : Int)) (by refine (wrap64 ?_ ?_).trans ?_ <;> omega))) rfl ?_
                    refine RO.opc (opv_bin rfl rfl rfl) (fun h13 => ?_) (fun h13 => ?_)
                    · try simp only [decide_eq_true_eq, decide_eq_false_iff_not, beq_iff_eq, beq_eq_false_iff_ne, bne_iff_ne, bne_eq_false_iff_eq, Int.not_lt, Int.not_le, ne_eq, Bool.not_eq_true', Bool.not_eq_false', gt_iff_lt, ge_iff_le] at h13
                      exact absurd (by rw [hvi]; omega) h13
                    · try simp only [decide_eq_true_eq, decide_eq_false_iff_not, beq_iff_eq, beq_eq_false_iff_ne, bne_iff_ne, bne_eq_false_iff_eq, Int.not_lt, Int.not_le, ne_eq, Bool.not_eq_true', Bool.not_eq_false', gt_iff_lt, ge_iff_le] at h13
                      refine RO.nil ?_
                      refine Runs.condF rfl ?_
                      refine Runs.skip ?_
                      refine thenQ_normal ?_
                      refine Runs.has [(4, .ref 0 0), (7, .d (.bool true)), (8, .ref 4 0), (10, .ref 5 0), (12, .ref 6 0), (14, .d (.list (ints _))), (15, .d (.int _ _))] ⟨rfl, rfl, rfl, rfl, rfl, rfl, rfl, trivial⟩ ?_
                      refine Runs.drawn (by kernel_rfl) [] [false, false, false, false, false, false, false] [false, false, false, false, false, false, true] (by decide +kernel) ?_
                      refine RD.opv (v' := .ref 4 0) (opv_move rfl) rfl ?_
                      refine RD.opv (v' := .d (.list (ints _))) (opv_move rfl) rfl ?_
                      refine RD.opv (v' := .d (.int _ _)) (opv_move rfl) rfl ?_
                      refine RD.opv (v' := .d (.ptr _)) (opv_index_ints rfl rfl (by omega)) rfl ?_
                      refine RD.opv (v' := .d (.int _ _)) (opv_load_ptr rfl rfl) rfl ?_
                      refine RD.opv (v' := .d (enc _)) (opv_callF (atom_fn ⟨#[97]⟩) rfl rfl rfl trivial) rfl ?_
                      refine RD.opn (v' := .d (.int _ _)) (O' := [_, _, _, _, _, _, _]) (opv_callS 2 3 (bind_fn y.2 ((copyT x.2 t).1.vars[y.1]'hk2) tat (hj.2.1.small' (Nat.le_of_ble_eq_true rfl)) (Nat.le_of_ble_eq_true (by decide +kernel)) (Nat.le_trans hj.2.1.len (Nat.le_of_ble_eq_true rfl)) (Nat.lt_of_le_of_lt hj.2.1.trl (Nat.lt_of_sub_pos (by decide)))) rfl rfl rfl (Nat.le_of_ble_eq_true rfl) rfl (AV.bds_of_B _ rfl)) rfl rfl trivial ?_
                      refine RD.nil ?_
                      refine blockQ_normal ?_
                      refine thenQ_normal ?_
                      refine Runs.has [(4, .ref 0 0), (7, .d (.bool true)), (8, .ref 4 0), (10, .ref 5 0), (12, .ref 6 0), (14, .d (.list (ints _))), (15, .d (.int _ _))] ⟨rfl, rfl, rfl, rfl, rfl, rfl, rfl, trivial⟩ ?_
                      refine Runs.region ?_
                      refine RO.opv (v' := .d (.int _ _)) (opv_move rfl) rfl ?_
                      refine RO.opv (v' := .d (.int _ _)) (opv_arith rfl rfl (binD_add (r := ((y.1 + 1 : Nat) : Int)) (by refine (wrap64 ?_ ?_).trans ?_ <;> omega))) rfl ?_
                      refine RO.opv (v' := .d (.int _ _)) (opv_assign rfl) rfl ?_
                      refine RO.nil ?_
                      refine thenQ_normal ?_
                      refine ⟨(y.1 + 1, (y.2.bind ((copyT x.2 t).1.vars[y.1]'hk2) tat).1), 7, (by rw [hK]; exact Nat.le_of_ble_eq_true rfl), ⟨rfl, rfl, rfl, rfl, rfl, rfl, trivial⟩, ⟨?_, trivial⟩, rfl, ?_, ?_⟩
                      · rfl
                      · refine ⟨hk2, hj.2.1.bind _ _ (Nat.le_of_ble_eq_true (by decide +kernel)), fun j hj0 => ?_⟩
                        rcases bind_cases y.2 ((copyT x.2 t).1.vars[y.1]'hk2) tat with ⟨e, _⟩ | ⟨_, _, _, _, e, _⟩
                        · show (y.2.bind _ _).1.at j = _; rw [e]; exact hj.2.2 j hj0
                        · show (y.2.bind _ _).1.at j = _; rw [bind_at e, if_neg (by rw [hvi]; omega)]; exact hj.2.2 j hj0
                      · show (copyT x.2 t).1.vars.length - (y.1 + 1) < _; omega
                  · try simp only [decide_eq_true_eq, decide_eq_false_iff_not, beq_iff_eq, beq_eq_false_iff_ne, bne_iff_ne, bne_eq_false_iff_eq, Int.not_lt, Int.not_le, ne_eq, Bool.not_eq_true', Bool.not_eq_false', gt_iff_lt, ge_iff_le] at h12
                    have hnow : y.2.full t = ((x.2.full t).1, 0) := full_of (fil_low hok hj.2.1 hi.2.2.2.2 hj.2.2 _ _ hF (low_iff.1 hlow)) hd hz
                    refine RO.nil ?_
                    refine Runs.condF rfl ?_
                    refine Runs.exit ?_
                    refine thenQ_exit ?_
                    refine thenQ_exit ?_
                    refine blockQ_here ?_
                    refine thenQ_normal ?_
                    refine Runs.has [(4, .ref 0 0), (7, .d (.bool true)), (8, .ref 4 0), (10, .ref 5 0), (12, .ref 6 0)] ⟨rfl, rfl, rfl, rfl, rfl, trivial⟩ ?_
                    refine Runs.rseq ?_
                    refine RO.opv (v' := .ref 4 0) (opv_move rfl) rfl ?_
                    refine RO.opv (v' := .d (enc _)) (opv_load_term rfl rfl rfl) rfl ?_
                    refine RO.opn (O' := [_, _, _, _, _, _, _]) (opv_callS 2 3 (full_fn y.2 t (hj.2.1.small' (Nat.le_of_ble_eq_true rfl)) hj.2.1.ends (by omega)) rfl rfl rfl (Nat.le_of_ble_eq_true rfl) rfl (AV.bds_of_B _ rfl)) rfl rfl ?_
                    refine RO.opv (opv_move rfl) rfl ?_
                    refine RO.opv (v' := .d (enc _)) (opv_extract rfl rfl) rfl ?_
                    refine RO.opv (v' := .d (.int _ _)) (opv_extract rfl rfl) rfl ?_
                    refine RO.opn (v' := .ref 7 0) (O' := [_, _, _, _, _, _, _, _]) (opv_alloc) rfl rfl ?_
                    refine RO.op0n (O' := [_, _, _, _, _, _, _, _]) (opv_store_term rfl rfl rfl (Nat.le_of_ble_eq_true rfl)) rfl ?_
                    refine RO.opv (v' := .d (.int _ _)) (opv_assign rfl) rfl ?_
                    refine RO.nil ?_
                    refine Runs.has [(7, .d (.bool true)), (10, .ref 5 0), (12, .ref 6 0), (16, .ref 7 0), (17, .d (.int _ _))] ⟨rfl, rfl, rfl, rfl, rfl, trivial⟩ ?_
                    refine Runs.rseq ?_
                    refine RO.opv (v' := .d (.bool true)) (opv_move rfl) rfl ?_
                    refine RO.opv (v' := .d (.bool true)) (opv_move rfl) rfl ?_
                    refine RO.opgv (v' := .d (enc _)) rfl (opv_load_term rfl rfl rfl) rfl ?_
                    refine RO.opgv (v' := .d (enc _)) rfl (opv_load_term rfl rfl rfl) rfl ?_
                    refine RO.opgv (v' := .d (.bool _)) rfl (opv_callF (variant_fn (copyT x.2 t).1 (x.2.full t).1 (by rw [hcb]; exact hfb) hfb) rfl rfl rfl trivial) rfl ?_
                    refine RO.opv (v' := .d (.bool _)) (opv_pick rfl rfl) rfl ?_
                    refine RO.opc (opv_move rfl) (fun h14 => ?_) (fun h14 => ?_)
                    · try simp only [decide_eq_true_eq, decide_eq_false_iff_not, beq_iff_eq, beq_eq_false_iff_ne, bne_iff_ne, bne_eq_false_iff_eq, Int.not_lt, Int.not_le, ne_eq, Bool.not_eq_true', Bool.not_eq_false', gt_iff_lt, ge_iff_le] at h14
                      refine RO.opgv (v' := .d (.int _ _)) rfl (opv_move rfl) rfl ?_
                      refine RO.opgv (v' := .d (.bool _)) rfl (opv_bin rfl rfl rfl) rfl ?_
                      refine RO.opv (v' := .d (.bool _)) (opv_pick rfl rfl) rfl ?_
                      refine RO.opc (opv_move rfl) (fun h15 => ?_) (fun h15 => ?_)
                      · try simp only [decide_eq_true_eq, decide_eq_false_iff_not, beq_iff_eq, beq_eq_false_iff_ne, bne_iff_ne, bne_eq_false_iff_eq, Int.not_lt, Int.not_le, ne_eq, Bool.not_eq_true', Bool.not_eq_false', gt_iff_lt, ge_iff_le] at h15
                        refine RO.opgv (v' := .d (enc _)) rfl (opv_load_term rfl rfl rfl) rfl ?_
                        refine RO.opgv (v' := .d (enc _)) rfl (opv_load_term rfl rfl rfl) rfl ?_
                        refine RO.opgv (v' := .d (.bool _)) rfl (opv_callF (same_fn (x.2.full t).1 (y.2.full t).1 hfb (by rw [hnow]; exact hfb)) rfl rfl rfl trivial) rfl ?_
                        refine RO.opv (v' := .d (.bool _)) (opv_pick rfl rfl) rfl ?_
                        refine RO.opv (v' := .d (.bool _)) (opv_assign rfl) rfl ?_
                        refine RO.nil ?_
                        refine Runs.ret ?_
                        refine EndQ.tmp (.inr rfl) rfl rfl 0 (by exact Nat.le_refl _) (by exact Nat.zero_le _) trivial ⟨?_, rfl⟩
                        first
                          | rfl
                          | (refine bool_eq ?_; rw [copy_bad he]; simp)
                          | (refine bool_eq ?_; rw [hnow, same_refl])
                      · try simp only [decide_eq_true_eq, decide_eq_false_iff_not, beq_iff_eq, beq_eq_false_iff_ne, bne_iff_ne, bne_eq_false_iff_eq, Int.not_lt, Int.not_le, ne_eq, Bool.not_eq_true', Bool.not_eq_false', gt_iff_lt, ge_iff_le] at h15
                        rw [hnow] at h15; exact absurd rfl h15
                    · try simp only [decide_eq_true_eq, decide_eq_false_iff_not, beq_iff_eq, beq_eq_false_iff_ne, bne_iff_ne, bne_eq_false_iff_eq, Int.not_lt, Int.not_le, ne_eq, Bool.not_eq_true', Bool.not_eq_false', gt_iff_lt, ge_iff_le] at h14
                      rw [hcp.1] at h14; simp only at h14; rw [norm_shifted 12 (by omega), same_refl] at h14; cases h14
          · try simp only [decide_eq_true_eq, decide_eq_false_iff_not, beq_iff_eq, beq_eq_false_iff_ne, bne_iff_ne, bne_eq_false_iff_eq, Int.not_lt, Int.not_le, ne_eq, Bool.not_eq_true', Bool.not_eq_false', gt_iff_lt, ge_iff_le] at h5
            skip
            refine RO.off rfl ?_
            refine RO.off rfl ?_
            refine RO.opv (v' := .d (.bool false)) (opv_pick rfl rfl) rfl ?_
            refine RO.nil ?_
            refine Runs.condF rfl ?_
            refine Runs.exit ?_
            refine thenQ_exit ?_
            refine thenQ_exit ?_
            refine blockQ_here ?_
            refine thenQ_normal ?_
            refine Runs.has [(4, .ref 0 0), (6, .d (.bool false)), (7, .d (.bool true)), (8, .ref 4 0)] ⟨rfl, rfl, rfl, rfl, trivial⟩ ?_
            have hok := hi.2.2.1
            have hfb := full_bulk (t := t) hok.small g2
            refine Runs.rseq ?_
            refine RO.opv (v' := .ref 4 0) (opv_move rfl) rfl ?_
            refine RO.opv (v' := .d (enc _)) (opv_load_term rfl rfl rfl) rfl ?_
            refine RO.opn (O' := [_, _, _, _, _]) (opv_callS 2 3 (full_fn x.2 t (hok.small' (Nat.le_of_ble_eq_true rfl)) hok.ends (by omega)) rfl rfl rfl (Nat.le_of_ble_eq_true rfl) rfl (AV.bds_of_B _ rfl)) rfl rfl ?_
            refine RO.opv (opv_move rfl) rfl ?_
            refine RO.opv (v' := .d (enc _)) (opv_extract rfl rfl) rfl ?_
            refine RO.opv (v' := .d (.int _ _)) (opv_extract rfl rfl) rfl ?_
            refine RO.opn (v' := .ref 5 0) (O' := [_, _, _, _, _, _]) (opv_alloc) rfl rfl ?_
            refine RO.op0n (O' := [_, _, _, _, _, _]) (opv_store_term rfl rfl rfl (Nat.le_of_ble_eq_true rfl)) rfl ?_
            refine RO.opv (v' := .d (.int _ _)) (opv_assign rfl) rfl ?_
            refine RO.nil ?_
            refine Runs.has [(4, .ref 0 0), (6, .d (.bool false)), (7, .d (.bool true)), (8, .ref 4 0), (10, .ref 5 0), (11, .d (.int _ _))] ⟨rfl, rfl, rfl, rfl, rfl, rfl, trivial⟩ ?_
            refine Runs.rseq ?_
            refine RO.opv (v' := .ref 4 0) (opv_move rfl) rfl ?_
            refine RO.opv (v' := .d (enc _)) (opv_load_term rfl rfl rfl) rfl ?_
            refine RO.opn (O' := [_, _, _, _, _, _]) (opv_callS 2 3 (copy_fn x.2 t (hok.small' (Nat.le_of_ble_eq_true rfl)) hok.ends hok.len (by omega) hfb) rfl rfl rfl (Nat.le_of_ble_eq_true rfl) rfl (AV.bds_of_B _ rfl)) rfl rfl ?_
            refine RO.opv (opv_move rfl) rfl ?_
            refine RO.opv (v' := .d (enc _)) (opv_extract rfl rfl) rfl ?_
            refine RO.opv (v' := .d (.int _ _)) (opv_extract rfl rfl) rfl ?_
            refine RO.opn (v' := .ref 6 0) (O' := [_, _, _, _, _, _, _]) (opv_alloc) rfl rfl ?_
            refine RO.op0n (O' := [_, _, _, _, _, _, _]) (opv_store_term rfl rfl rfl (Nat.le_of_ble_eq_true rfl)) rfl ?_
            refine RO.opv (v' := .d (.int _ _)) (opv_assign rfl) rfl ?_
            refine RO.nil ?_
            refine Runs.has [(4, .ref 0 0), (6, .d (.bool false)), (7, .d (.bool true)), (8, .ref 4 0), (10, .ref 5 0), (11, .d (.int _ _)), (12, .ref 6 0), (13, .d (.int _ _))] ⟨rfl, rfl, rfl, rfl, rfl, rfl, rfl, rfl, trivial⟩ ?_
            refine Runs.seq ?_
            refine Runs.rseq ?_
            refine RO.opv (v' := .d (.int _ _)) (opv_move rfl) rfl ?_
            refine RO.opv (v' := .d (.bool _)) (opv_bin rfl rfl rfl) rfl ?_
            refine RO.opc (opv_move rfl) (fun h16 => ?_) (fun h16 => ?_)
            · try simp only [decide_eq_true_eq, decide_eq_false_iff_not, beq_iff_eq, beq_eq_false_iff_ne, bne_iff_ne, bne_eq_false_iff_eq, Int.not_lt, Int.not_le, ne_eq, Bool.not_eq_true', Bool.not_eq_false', gt_iff_lt, ge_iff_le] at h16
              have he := h16
              refine RO.off rfl ?_
              refine RO.off rfl ?_
              refine RO.opv (v' := .d (.bool true)) (opv_pick rfl rfl) rfl ?_
              refine RO.nil ?_
              refine Runs.condT rfl ?_
              refine Runs.has [(4, .ref 0 0), (6, .d (.bool false)), (7, .d (.bool true)), (8, .ref 4 0), (10, .ref 5 0), (11, .d (.int _ _)), (12, .ref 6 0), (13, .d (.int _ _))] ⟨rfl, rfl, rfl, rfl, rfl, rfl, rfl, rfl, trivial⟩ ?_
              refine Runs.rseq ?_
              refine RO.opv (v' := .d (.bool true)) (opv_move rfl) rfl ?_
              refine RO.opv (v' := .d (.bool true)) (opv_move rfl) rfl ?_
              refine RO.opgv (v' := .d (.int _ _)) rfl (opv_move rfl) rfl ?_
              refine RO.opgv (v' := .d (.int _ _)) rfl (opv_move rfl) rfl ?_
              refine RO.opgv (v' := .d (.bool _)) rfl (opv_bin rfl rfl rfl) rfl ?_
              refine RO.opv (v' := .d (.bool _)) (opv_pick rfl rfl) rfl ?_
              refine RO.opv (v' := .d (.bool _)) (opv_assign rfl) rfl ?_
              refine RO.nil ?_
              refine Runs.ret ?_
              refine thenQ_ret ?_
              refine EndQ.tmp (.inr rfl) rfl rfl 0 (by exact Nat.le_refl _) (by exact Nat.zero_le _) trivial ⟨?_, rfl⟩
              first
                | rfl
                | (refine bool_eq ?_; rw [copy_bad he]; simp)
                | (refine bool_eq ?_; rw [hnow, same_refl])
            · try simp only [decide_eq_true_eq, decide_eq_false_iff_not, beq_iff_eq, beq_eq_false_iff_ne, bne_iff_ne, bne_eq_false_iff_eq, Int.not_lt, Int.not_le, ne_eq, Bool.not_eq_true', Bool.not_eq_false', gt_iff_lt, ge_iff_le] at h16
              have he : (x.2.full t).2 = 0 := by omega
              obtain ⟨hF, hd, hz, _⟩ := full_spec hok.small g2 he
              have hcp := copy_ok (s := x.2) (t := t) hi.2.2.2.1 he hz
              have hcb : (copyT x.2 t).1.bulk = (x.2.full t).1.bulk := by rw [hcp.1]; show (Term.shift _ _).bulk = _; rw [shift_bulk, norm_bulk]
              have hcv := copy_vars hz
              have hcv2 : (copyT x.2 t).1.vars = (ups (x.2.full t).1.vars.length).map (fun n => n + 12) := by rw [hcp.1]; exact hcv
              have hcl : (copyT x.2 t).1.vars.length = (x.2.full t).1.vars.length := by rw [hcv2, List.length_map, ups_len]
              have hvs := vars_size (x.2.full t).1
              have hok2 : (copyS x.2 t).Ok (2 ^ 20) := by rw [hcp.2]; exact hok.fresh _
              refine RO.opgv (v' := .d (.int _ _)) rfl (opv_move rfl) rfl ?_
              refine RO.opgv (v' := .d (.bool _)) rfl (opv_bin rfl rfl rfl) rfl ?_
              refine RO.opc (opv_pick rfl rfl) (fun h17 => ?_) (fun h17 => ?_)
              · try simp only [decide_eq_true_eq, decide_eq_false_iff_not, beq_iff_eq, beq_eq_false_iff_ne, bne_iff_ne, bne_eq_false_iff_eq, Int.not_lt, Int.not_le, ne_eq, Bool.not_eq_true', Bool.not_eq_false', gt_iff_lt, ge_iff_le] at h17
                first | exact absurd (by rw [hcp.1]) h17
              · try simp only [decide_eq_true_eq, decide_eq_false_iff_not, beq_iff_eq, beq_eq_false_iff_ne, bne_iff_ne, bne_eq_false_iff_eq, Int.not_lt, Int.not_le, ne_eq, Bool.not_eq_true', Bool.not_eq_false', gt_iff_lt, ge_iff_le] at h17
                refine RO.nil ?_
                refine Runs.condF rfl ?_
                refine Runs.skip ?_
                refine thenQ_normal ?_
                refine Runs.has [(4, .ref 0 0), (6, .d (.bool false)), (7, .d (.bool true)), (8, .ref 4 0), (10, .ref 5 0), (12, .ref 6 0)] ⟨rfl, rfl, rfl, rfl, rfl, rfl, trivial⟩ ?_
                refine Runs.rseq ?_
                refine RO.opv (v' := .d (enc _)) (opv_load_term rfl rfl rfl) rfl ?_
                refine RO.opv (v' := .d (.list (ints _))) (opv_callF (vars_fn (copyT x.2 t).1 (by rw [hcb]; exact hfb)) rfl rfl rfl trivial) rfl ?_
                refine RO.opv (v' := .d (.list (ints _))) (opv_assign rfl) rfl ?_
                refine RO.nil ?_
                refine Runs.has [(4, .ref 0 0), (6, .d (.bool false)), (7, .d (.bool true)), (8, .ref 4 0), (10, .ref 5 0), (12, .ref 6 0), (14, .d (.list (ints _)))] ⟨rfl, rfl, rfl, rfl, rfl, rfl, rfl, trivial⟩ ?_
                refine Runs.seq ?_
                refine Runs.rseq ?_
                refine RO.opv (v' := .d (.int _ _)) (opv_assign rfl) rfl ?_
                refine RO.nil ?_
                refine Runs.block ?_
                refine Runs.loopC (X := (Nat × St)) (fun y => y.1 ≤ (copyT x.2 t).1.vars.length ∧ y.2.Ok (2 ^ 20) ∧ ∀ j : Int, j < 12 → y.2.at j = x.2.at j) (fun y => (copyT x.2 t).1.vars.length - y.1) [(4, .ref 0 0), (7, .d (.bool true)), (8, .ref 4 0), (10, .ref 5 0), (12, .ref 6 0), (14, .d (.list (ints _)))] (fun y => [(15, .d (.int .i64 (y.1 : Nat)))]) [_, _] (fun y => [.buf 70 5 (encCells (y.2).cs) (y.2).v1, .buf 3 1 (ints (y.2).tr) (y.2).v2, .cells [.own 2 (y.2).v1, .own 3 (y.2).v2], .cells (cellsT (x.2.full t).1), .cells (cellsT (copyT x.2 t).1)]) (((0 : Nat), (copyS x.2 t))) ⟨rfl, rfl, rfl, rfl, rfl, rfl, trivial⟩ ⟨rfl, trivial⟩ rfl ⟨Nat.zero_le _, hok2, fun j hj => by show (copyS x.2 t).at j = _; rw [hcp.2, fresh_at]⟩ fun y hj => ?_
                refine Runs.seq ?_
                refine Runs.rseq ?_
                refine RO.opv (v' := .d (.int _ _)) (opv_move rfl) rfl ?_
                refine RO.opv (v' := .d (.list (ints _))) (opv_move rfl) rfl ?_
                refine RO.opv (v' := .d (.int _ _)) (opv_len_ints rfl) rfl ?_
                refine RO.opc (opv_bin rfl rfl rfl) (fun h18 => ?_) (fun h18 => ?_)
                · try simp only [decide_eq_true_eq, decide_eq_false_iff_not, beq_iff_eq, beq_eq_false_iff_ne, bne_iff_ne, bne_eq_false_iff_eq, Int.not_lt, Int.not_le, ne_eq, Bool.not_eq_true', Bool.not_eq_false', gt_iff_lt, ge_iff_le] at h18
                  have hk2 : y.1 < (copyT x.2 t).1.vars.length := by omega
                  have hvi : ((copyT x.2 t).1.vars[y.1]'hk2) = (y.1 : Int) + 12 := by simp only [hcv2, List.getElem_map]; rw [ups_get]
                  refine RO.nil ?_
                  refine Runs.condT rfl ?_
                  refine Runs.skip ?_
                  refine thenQ_normal ?_
                  refine Runs.has [(4, .ref 0 0), (7, .d (.bool true)), (8, .ref 4 0), (10, .ref 5 0), (12, .ref 6 0), (14, .d (.list (ints _))), (15, .d (.int _ _))] ⟨rfl, rfl, rfl, rfl, rfl, rfl, rfl, trivial⟩ ?_
                  refine Runs.seq ?_
                  refine Runs.block ?_
                  refine Runs.seq ?_
                  refine Runs.rseq ?_
                  refine RO.opv (v' := .d (.list (ints _))) (opv_move rfl) rfl ?_
                  refine RO.opv (v' := .d (.int _ _)) (opv_move rfl) rfl ?_
                  refine RO.opv (v' := .d (.ptr _)) (opv_index_ints rfl rfl (by omega)) rfl ?_
                  refine RO.opv (v' := .d (.int _ _)) (opv_load_ptr rfl rfl) rfl ?_
                  refine RO.opv (v' := .d (.int _ _)) (opv_move rfl) rfl ?_
                  refine RO.opv (v' := .d (.int _ _)) (opv_arith rfl rfl (binD_add (r := 12 + (y.1 : Int)) (by refine (wrap64 ?_ ?_).trans ?_ <;> omega))) rfl ?_
                  refine RO.opc (opv_bin rfl rfl rfl) (fun h19 => ?_) (fun h19 => ?_)
                  · try simp only [decide_eq_true_eq, decide_eq_false_iff_not, beq_iff_eq, beq_eq_false_iff_ne, bne_iff_ne, bne_eq_false_iff_eq, Int.not_lt, Int.not_le, ne_eq, Bool.not_eq_true', Bool.not_eq_false', gt_iff_lt, ge_iff_le] at h19
                    exact absurd (by rw [hvi]; omega) h19
                  · try simp only [decide_eq_true_eq, decide_eq_false_iff_not, beq_iff_eq, beq_eq_false_iff_ne, bne_iff_ne, bne_eq_false_iff_eq, Int.not_lt, Int.not_le, ne_eq, Bool.not_eq_true', Bool.not_eq_false', gt_iff_lt, ge_iff_le] at h19
                    refine RO.nil ?_
                    refine Runs.condF rfl ?_
                    refine Runs.skip ?_
                    refine thenQ_normal ?_
                    refine Runs.has [(4, .ref 0 0), (7, .d (.bool true)), (8, .ref 4 0), (10, .ref 5 0), (12, .ref 6 0), (14, .d (.list (ints _))), (15, .d (.int _ _))] ⟨rfl, rfl, rfl, rfl, rfl, rfl, rfl, trivial⟩ ?_
                    refine Runs.drawn (by kernel_rfl) [] [false, false, false, false, false, false, false] [false, false, false, false, false, false, true] (by decide +kernel) ?_
                    refine RD.opv (v' := .ref 4 0) (opv_move rfl) rfl ?_
                    refine RD.opv (v' := .d (.list (ints _))) (opv_move rfl) rfl ?_
                    refine RD.opv (v' := .d (.int _ _)) (opv_move rfl) rfl ?_
                    refine RD.opv (v' := .d (.ptr _)) (opv_index_ints rfl rfl (by omega)) rfl ?_
                    refine RD.opv (v' := .d (.int _ _)) (opv_load_ptr rfl rfl) rfl ?_
                    refine RD.opv (v' := .d (enc _)) (opv_callF (atom_fn ⟨#[97]⟩) rfl rfl rfl trivial) rfl ?_
                    refine RD.opn (v' := .d (.int _ _)) (O' := [_, _, _, _, _, _, _]) (opv_callS 2 3 (bind_fn y.2 ((copyT x.2 t).1.vars[y.1]'hk2) tat (hj.2.1.small' (Nat.le_of_ble_eq_true rfl)) (Nat.le_of_ble_eq_true (by decide +kernel)) (Nat.le_trans hj.2.1.len (Nat.le_of_ble_eq_true rfl)) (Nat.lt_of_le_of_lt hj.2.1.trl (Nat.lt_of_sub_pos (by decide)))) rfl rfl rfl (Nat.le_of_ble_eq_true rfl) rfl (AV.bds_of_B _ rfl)) rfl rfl trivial ?_
                    refine RD.nil ?_
                    refine blockQ_normal ?_
                    refine thenQ_normal ?_
                    refine Runs.has [(4, .ref 0 0), (7, .d (.bool true)), (8, .ref 4 0), (10, .ref 5 0), (12, .ref 6 0), (14, .d (.list (ints _))), (15, .d (.int _ _))] ⟨rfl, rfl, rfl, rfl, rfl, rfl, rfl, trivial⟩ ?_
                    refine Runs.region ?_
                    refine RO.opv (v' := .d (.int _ _)) (opv_move rfl) rfl ?_
                    refine RO.opv (v' := .d (.int _ _)) (opv_arith rfl rfl (binD_add (r := ((y.1 + 1 : Nat) : Int)) (by refine (wrap64 ?_ ?_).trans ?_ <;> omega))) rfl ?_
                    refine RO.opv (v' := .d (.int _ _)) (opv_assign rfl) rfl ?_
                    refine RO.nil ?_
                    refine thenQ_normal ?_
                    refine ⟨(y.1 + 1, (y.2.bind ((copyT x.2 t).1.vars[y.1]'hk2) tat).1), 7, (by rw [hK]; exact Nat.le_of_ble_eq_true rfl), ⟨rfl, rfl, rfl, rfl, rfl, rfl, trivial⟩, ⟨?_, trivial⟩, rfl, ?_, ?_⟩
                    · rfl
                    · refine ⟨hk2, hj.2.1.bind _ _ (Nat.le_of_ble_eq_true (by decide +kernel)), fun j hj0 => ?_⟩
                      rcases bind_cases y.2 ((copyT x.2 t).1.vars[y.1]'hk2) tat with ⟨e, _⟩ | ⟨_, _, _, _, e, _⟩
                      · show (y.2.bind _ _).1.at j = _; rw [e]; exact hj.2.2 j hj0
                      · show (y.2.bind _ _).1.at j = _; rw [bind_at e, if_neg (by rw [hvi]; omega)]; exact hj.2.2 j hj0
                    · show (copyT x.2 t).1.vars.length - (y.1 + 1) < _; omega
                · try simp only [decide_eq_true_eq, decide_eq_false_iff_not, beq_iff_eq, beq_eq_false_iff_ne, bne_iff_ne, bne_eq_false_iff_eq, Int.not_lt, Int.not_le, ne_eq, Bool.not_eq_true', Bool.not_eq_false', gt_iff_lt, ge_iff_le] at h18
                  have hnow : y.2.full t = ((x.2.full t).1, 0) := full_of (fil_low hok hj.2.1 hi.2.2.2.2 hj.2.2 _ _ hF (low_iff.1 hlow)) hd hz
                  refine RO.nil ?_
                  refine Runs.condF rfl ?_
                  refine Runs.exit ?_
                  refine thenQ_exit ?_
                  refine thenQ_exit ?_
                  refine blockQ_here ?_
                  refine thenQ_normal ?_
                  refine Runs.has [(4, .ref 0 0), (7, .d (.bool true)), (8, .ref 4 0), (10, .ref 5 0), (12, .ref 6 0)] ⟨rfl, rfl, rfl, rfl, rfl, trivial⟩ ?_
                  refine Runs.rseq ?_
                  refine RO.opv (v' := .ref 4 0) (opv_move rfl) rfl ?_
                  refine RO.opv (v' := .d (enc _)) (opv_load_term rfl rfl rfl) rfl ?_
                  refine RO.opn (O' := [_, _, _, _, _, _, _]) (opv_callS 2 3 (full_fn y.2 t (hj.2.1.small' (Nat.le_of_ble_eq_true rfl)) hj.2.1.ends (by omega)) rfl rfl rfl (Nat.le_of_ble_eq_true rfl) rfl (AV.bds_of_B _ rfl)) rfl rfl ?_
                  refine RO.opv (opv_move rfl) rfl ?_
                  refine RO.opv (v' := .d (enc _)) (opv_extract rfl rfl) rfl ?_
                  refine RO.opv (v' := .d (.int _ _)) (opv_extract rfl rfl) rfl ?_
                  refine RO.opn (v' := .ref 7 0) (O' := [_, _, _, _, _, _, _, _]) (opv_alloc) rfl rfl ?_
                  refine RO.op0n (O' := [_, _, _, _, _, _, _, _]) (opv_store_term rfl rfl rfl (Nat.le_of_ble_eq_true rfl)) rfl ?_
                  refine RO.opv (v' := .d (.int _ _)) (opv_assign rfl) rfl ?_
                  refine RO.nil ?_
                  refine Runs.has [(7, .d (.bool true)), (10, .ref 5 0), (12, .ref 6 0), (16, .ref 7 0), (17, .d (.int _ _))] ⟨rfl, rfl, rfl, rfl, rfl, trivial⟩ ?_
                  refine Runs.rseq ?_
                  refine RO.opv (v' := .d (.bool true)) (opv_move rfl) rfl ?_
                  refine RO.opv (v' := .d (.bool true)) (opv_move rfl) rfl ?_
                  refine RO.opgv (v' := .d (enc _)) rfl (opv_load_term rfl rfl rfl) rfl ?_
                  refine RO.opgv (v' := .d (enc _)) rfl (opv_load_term rfl rfl rfl) rfl ?_
                  refine RO.opgv (v' := .d (.bool _)) rfl (opv_callF (variant_fn (copyT x.2 t).1 (x.2.full t).1 (by rw [hcb]; exact hfb) hfb) rfl rfl rfl trivial) rfl ?_
                  refine RO.opv (v' := .d (.bool _)) (opv_pick rfl rfl) rfl ?_
                  refine RO.opc (opv_move rfl) (fun h20 => ?_) (fun h20 => ?_)
                  · try simp only [decide_eq_true_eq, decide_eq_false_iff_not, beq_iff_eq, beq_eq_false_iff_ne, bne_iff_ne, bne_eq_false_iff_eq, Int.not_lt, Int.not_le, ne_eq, Bool.not_eq_true', Bool.not_eq_false', gt_iff_lt, ge_iff_le] at h20
                    refine RO.opgv (v' := .d (.int _ _)) rfl (opv_move rfl) rfl ?_
                    refine RO.opgv (v' := .d (.bool _)) rfl (opv_bin rfl rfl rfl) rfl ?_
                    refine RO.opv (v' := .d (.bool _)) (opv_pick rfl rfl) rfl ?_
                    refine RO.opc (opv_move rfl) (fun h21 => ?_) (fun h21 => ?_)
                    · try simp only [decide_eq_true_eq, decide_eq_false_iff_not, beq_iff_eq, beq_eq_false_iff_ne, bne_iff_ne, bne_eq_false_iff_eq, Int.not_lt, Int.not_le, ne_eq, Bool.not_eq_true', Bool.not_eq_false', gt_iff_lt, ge_iff_le] at h21
                      refine RO.opgv (v' := .d (enc _)) rfl (opv_load_term rfl rfl rfl) rfl ?_
                      refine RO.opgv (v' := .d (enc _)) rfl (opv_load_term rfl rfl rfl) rfl ?_
                      refine RO.opgv (v' := .d (.bool _)) rfl (opv_callF (same_fn (x.2.full t).1 (y.2.full t).1 hfb (by rw [hnow]; exact hfb)) rfl rfl rfl trivial) rfl ?_
                      refine RO.opv (v' := .d (.bool _)) (opv_pick rfl rfl) rfl ?_
                      refine RO.opv (v' := .d (.bool _)) (opv_assign rfl) rfl ?_
                      refine RO.nil ?_
                      refine Runs.ret ?_
                      refine EndQ.tmp (.inr rfl) rfl rfl 0 (by exact Nat.le_refl _) (by exact Nat.zero_le _) trivial ⟨?_, rfl⟩
                      first
                        | rfl
                        | (refine bool_eq ?_; rw [copy_bad he]; simp)
                        | (refine bool_eq ?_; rw [hnow, same_refl])
                    · try simp only [decide_eq_true_eq, decide_eq_false_iff_not, beq_iff_eq, beq_eq_false_iff_ne, bne_iff_ne, bne_eq_false_iff_eq, Int.not_lt, Int.not_le, ne_eq, Bool.not_eq_true', Bool.not_eq_false', gt_iff_lt, ge_iff_le] at h21
                      rw [hnow] at h21; exact absurd rfl h21
                  · try simp only [decide_eq_true_eq, decide_eq_false_iff_not, beq_iff_eq, beq_eq_false_iff_ne, bne_iff_ne, bne_eq_false_iff_eq, Int.not_lt, Int.not_le, ne_eq, Bool.not_eq_true', Bool.not_eq_false', gt_iff_lt, ge_iff_le] at h20
                    rw [hcp.1] at h20; simp only at h20; rw [norm_shifted 12 (by omega), same_refl] at h20; cases h20
theorem copytApart_row (l : List (Int × Term)) (t u : Term) (g1 : sumN (fun d => d.2.bulk) l ≤ 2 ^ 20) (_f1 : ∀ d ∈ l, d.2.fits) (g2 : t.bulk ≤ 2 ^ 20) (_f2 : t.fits) (g3 : u.bulk ≤ 2 ^ 20) (_f3 : u.fits) : Fn Try.prog 7 [.d (.list (l.map encBind)), .d (enc t), .d (enc u)] [] (.d (.bool true)) [] :=
  copytApart_fn l t u (fun d hd => Nat.le_trans (sumN_mem (f := fun d : Int × Term => d.2.bulk) hd) g1) g2 g3
end Go.Proofs.Ytbpbpkolpldimaa.AM
