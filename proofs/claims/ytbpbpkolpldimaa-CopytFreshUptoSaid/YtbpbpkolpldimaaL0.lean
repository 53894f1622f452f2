import Derived.Test.YtbpbpkolpldimaaCg
import Derived.Test.YtbpbpkolpldimaaC1
namespace Go.Proofs.Ytbpbpkolpldimaa.AM
open Go
set_option linter.unusedVariables false
set_option linter.unusedSimpArgs false
theorem few_fn (t : Term) (hb : t.bulk ≤ 2 ^ 30) : Fn Try.prog 9 [.d (enc t)] [] (.d (.bool (decide ((t.size : Int) ≤ 300)))) [] := by
  refine Does.run Try.func9 rfl Try.ntmps9 rfl fun K hK => ?_
  refine Runs.rseq ?_
  refine RO.opn (v' := .ref 0 0) (O' := [_]) (opv_box_term rfl) rfl rfl ?_
  refine RO.opv (v' := .d (.bool false)) (opv_assign rfl) rfl ?_
  refine RO.nil ?_
  refine Runs.has [(1, .ref 0 0), (2, .d (.bool false))] ⟨rfl, rfl, trivial⟩ ?_
  refine Runs.rseq ?_
  refine RO.opv (v' := .d (enc _)) (opv_load_term rfl rfl rfl) rfl ?_
  refine RO.opv (v' := .d (.int _ _)) (opv_callF (rsize_fn t hb) rfl rfl rfl trivial) rfl ?_
  refine RO.opv (v' := .d (.bool _)) (opv_bin rfl rfl rfl) rfl ?_
  refine RO.opv (v' := .d (.bool _)) (opv_assign rfl) rfl ?_
  refine RO.nil ?_
  refine Runs.ret ?_
  refine EndQ.tmp (.inr rfl) rfl rfl 0 (by exact Nat.le_refl _) (by exact Nat.zero_le _) trivial ⟨?_, rfl⟩
  rfl
def sx : Term := .node 3 0 ⟨#[102]⟩ [lets 7, lets 3, lets 7]
def sy : Term := .node 3 0 ⟨#[102]⟩ [lets 0, lets 1, lets 0]
theorem shown_fn  : Fn Try.prog 8 [] [] (.d (.bool true)) [] := by
  refine Does.run Try.func8 rfl Try.ntmps8 rfl fun K hK => ?_
  refine Runs.rseq ?_
  refine RO.opv (v' := .d (.bool false)) (opv_assign rfl) rfl ?_
  refine RO.nil ?_
  refine Runs.rseq ?_
  refine RO.opv (v' := .d (enc _)) (opv_callF (let_fn 7) rfl rfl rfl trivial) rfl ?_
  refine RO.opv (v' := .d (enc _)) (opv_callF (let_fn 3) rfl rfl rfl trivial) rfl ?_
  refine RO.opv (v' := .d (enc _)) (opv_callF (let_fn 7) rfl rfl rfl trivial) rfl ?_
  refine RO.opv (v' := .d (.list (encs _))) (opv_bs_term3 rfl rfl rfl ) rfl ?_
  refine RO.opv (v' := .d (enc _)) (opv_callF (make_fn ⟨#[102]⟩ [lets 7, lets 3, lets 7] (Nat.le_of_ble_eq_true rfl)) rfl rfl rfl trivial) rfl ?_
  refine RO.opv (opv_callF (norm_fn sx (Nat.le_of_ble_eq_true (by decide +kernel))) rfl rfl rfl ⟨trivial, trivial, trivial⟩) rfl ?_
  refine RO.opv (opv_move rfl) rfl ?_
  refine RO.opv (v' := .d (enc _)) (opv_extract rfl rfl) rfl ?_
  refine RO.opv (v' := .d (.int _ _)) (opv_extract rfl rfl) rfl ?_
  refine RO.opn (v' := .ref 0 0) (O' := [_]) (opv_alloc) rfl rfl ?_
  refine RO.op0n (O' := [_]) (opv_store_term rfl rfl rfl (Nat.le_of_ble_eq_true rfl)) rfl ?_
  refine RO.opv (v' := .d (.int _ _)) (opv_assign rfl) rfl ?_
  refine RO.nil ?_
  refine Runs.has [(0, .d (.bool false)), (1, .ref 0 0), (2, .d (.int _ _))] ⟨rfl, rfl, rfl, trivial⟩ ?_
  refine Runs.seq ?_
  refine Runs.drawn (by kernel_rfl) [] [false, false, false, false, false, false, false, false, false, false, false, false] [false, false, false, false, false, false, false, false, false, false, false, false] (by decide +kernel) ?_
  refine RD.opv (v' := .d (.int _ _)) (opv_move rfl) rfl ?_
  refine RD.opv (v' := .d (.bool _)) (opv_bin rfl rfl rfl) rfl ?_
  refine RD.opc (opv_move rfl) (fun h1 => ?_) (fun h1 => ?_)
  · skip
    refine RD.opgv (v' := .d (enc _)) rfl (opv_load_term rfl rfl rfl) rfl ?_
    refine RD.opgv (v' := .d (enc _)) rfl (opv_callF (let_fn 0) rfl rfl rfl trivial) rfl ?_
    refine RD.opgv (v' := .d (enc _)) rfl (opv_callF (let_fn 1) rfl rfl rfl trivial) rfl ?_
    refine RD.opgv (v' := .d (enc _)) rfl (opv_callF (let_fn 0) rfl rfl rfl trivial) rfl ?_
    refine RD.opgv (v' := .d (.list (encs _))) rfl (opv_bs_term3 rfl rfl rfl ) rfl ?_
    refine RD.opgv (v' := .d (enc _)) rfl (opv_callF (make_fn ⟨#[102]⟩ [lets 0, lets 1, lets 0] (Nat.le_of_ble_eq_true rfl)) rfl rfl rfl trivial) rfl ?_
    refine RD.opgv (v' := .d (.bool _)) rfl (opv_callF (same_fn sx.norm sy (Nat.le_of_ble_eq_true (by decide +kernel)) (Nat.le_of_ble_eq_true (by decide +kernel))) rfl rfl rfl trivial) rfl ?_
    refine RD.opv (v' := .d (.bool _)) (opv_pick rfl rfl) rfl ?_
    refine RD.opv (v' := .d (.bool _)) (opv_assign rfl) rfl ?_
    refine RD.nil ?_
    refine thenQ_normal ?_
    refine Runs.ret ?_
    refine EndQ.tmp (.inr rfl) rfl rfl 0 (by exact Nat.le_refl _) (by exact Nat.zero_le _) trivial ⟨?_, rfl⟩
    refine bool_eq ?_; decide +kernel
  · skip
    exact absurd h1 (by decide +kernel)
theorem low_fn (t : Term) (hb : t.bulk ≤ 2 ^ 28) : Fn Try.prog 20 [.d (enc t)] [] (.d (.bool t.lowB)) [] := by
  have hvs := vars_size t
  have hss := t.size_bulk
  refine Does.run Try.func20 rfl Try.ntmps20 rfl fun K hK => ?_
  refine Runs.rseq ?_
  refine RO.opn (v' := .ref 0 0) (O' := [_]) (opv_box_term rfl) rfl rfl ?_
  refine RO.opv (v' := .d (.bool false)) (opv_assign rfl) rfl ?_
  refine RO.nil ?_
  refine Runs.has [(1, .ref 0 0), (2, .d (.bool false))] ⟨rfl, rfl, trivial⟩ ?_
  refine Runs.rseq ?_
  refine RO.opv (v' := .d (enc _)) (opv_load_term rfl rfl rfl) rfl ?_
  refine RO.opv (v' := .d (.list (ints _))) (opv_callF (rvars_fn t hb) rfl rfl rfl trivial) rfl ?_
  refine RO.opv (v' := .d (.list (ints _))) (opv_assign rfl) rfl ?_
  refine RO.nil ?_
  refine Runs.has [(2, .d (.bool false)), (3, .d (.list (ints _)))] ⟨rfl, rfl, trivial⟩ ?_
  refine Runs.seq ?_
  refine Runs.rseq ?_
  refine RO.opv (v' := .d (.int _ _)) (opv_assign rfl) rfl ?_
  refine RO.nil ?_
  refine Runs.block ?_
  refine Runs.loopC (X := Nat) (fun i => i ≤ t.vars.length ∧ (t.vars.take i).all (fun n => decide (n < 12)) = true) (fun i => t.vars.length - i) [(3, .d (.list (ints _)))] (fun i => [(4, .d (.int .i64 (i : Nat)))]) [_] (fun i => []) (0) ⟨rfl, trivial⟩ ⟨rfl, trivial⟩ rfl ⟨Nat.zero_le _, by simp⟩ fun i hi => ?_
  refine Runs.seq ?_
  refine Runs.rseq ?_
  refine RO.opv (v' := .d (.int _ _)) (opv_move rfl) rfl ?_
  refine RO.opv (v' := .d (.list (ints _))) (opv_move rfl) rfl ?_
  refine RO.opv (v' := .d (.int _ _)) (opv_len_ints rfl) rfl ?_
  refine RO.opc (opv_bin rfl rfl rfl) (fun h1 => ?_) (fun h1 => ?_)
  · try simp only [decide_eq_true_eq, decide_eq_false_iff_not, beq_iff_eq, beq_eq_false_iff_ne, bne_iff_ne, bne_eq_false_iff_eq, Int.not_lt, Int.not_le, ne_eq, Bool.not_eq_true', Bool.not_eq_false', gt_iff_lt, ge_iff_le] at h1
    have hk : i < t.vars.length := by omega
    refine RO.nil ?_
    refine Runs.condT rfl ?_
    refine Runs.skip ?_
    refine thenQ_normal ?_
    refine Runs.has [(3, .d (.list (ints _))), (4, .d (.int _ _))] ⟨rfl, rfl, trivial⟩ ?_
    refine Runs.seq ?_
    refine Runs.block ?_
    refine Runs.rseq ?_
    refine RO.opv (v' := .d (.list (ints _))) (opv_move rfl) rfl ?_
    refine RO.opv (v' := .d (.int _ _)) (opv_move rfl) rfl ?_
    refine RO.opv (v' := .d (.ptr _)) (opv_index_ints rfl rfl (by omega)) rfl ?_
    refine RO.opv (v' := .d (.int _ _)) (opv_load_ptr rfl rfl) rfl ?_
    refine RO.opc (opv_bin rfl rfl rfl) (fun h2 => ?_) (fun h2 => ?_)
    · try simp only [decide_eq_true_eq, decide_eq_false_iff_not, beq_iff_eq, beq_eq_false_iff_ne, bne_iff_ne, bne_eq_false_iff_eq, Int.not_lt, Int.not_le, ne_eq, Bool.not_eq_true', Bool.not_eq_false', gt_iff_lt, ge_iff_le] at h2
      have hge := h2
      refine RO.nil ?_
      refine Runs.condT rfl ?_
      refine Runs.has [(3, .d (.list (ints _))), (4, .d (.int _ _))] ⟨rfl, rfl, trivial⟩ ?_
      refine Runs.rseq ?_
      refine RO.opv (v' := .d (.bool false)) (opv_assign rfl) rfl ?_
      refine RO.nil ?_
      refine Runs.ret ?_
      refine blockQ_ret ?_
      refine thenQ_ret ?_
      refine thenQ_ret ?_
      refine blockQ_ret ?_
      refine thenQ_ret ?_
      refine EndQ.tmp (.inr rfl) rfl rfl 0 (by exact Nat.le_refl _) (by exact Nat.zero_le _) trivial ⟨?_, rfl⟩
      refine bool_eq ?_; exact (low_no hk hge).symm
    · try simp only [decide_eq_true_eq, decide_eq_false_iff_not, beq_iff_eq, beq_eq_false_iff_ne, bne_iff_ne, bne_eq_false_iff_eq, Int.not_lt, Int.not_le, ne_eq, Bool.not_eq_true', Bool.not_eq_false', gt_iff_lt, ge_iff_le] at h2
      have hlt := h2
      refine RO.nil ?_
      refine Runs.condF rfl ?_
      refine Runs.skip ?_
      refine blockQ_normal ?_
      refine thenQ_normal ?_
      refine Runs.has [(3, .d (.list (ints _))), (4, .d (.int _ _))] ⟨rfl, rfl, trivial⟩ ?_
      refine Runs.region ?_
      refine RO.opv (v' := .d (.int _ _)) (opv_move rfl) rfl ?_
      refine RO.opv (v' := .d (.int _ _)) (opv_bin rfl rfl rfl) rfl ?_
      refine RO.opv (v' := .d (.int _ _)) (opv_assign rfl) rfl ?_
      refine RO.nil ?_
      refine thenQ_normal ?_
      refine ⟨i + 1, 1, (by rw [hK]; exact Nat.le_of_ble_eq_true rfl), ⟨rfl, trivial⟩, ⟨?_, trivial⟩, rfl, ?_, ?_⟩
      · refine int_eq ?_; rw [wrap64 (by omega) (by omega)]; omega
      · refine ⟨by omega, ?_⟩
        rw [List.take_succ_eq_append_getElem hk, List.all_append, hi.2]; simp; omega
      · omega
  · try simp only [decide_eq_true_eq, decide_eq_false_iff_not, beq_iff_eq, beq_eq_false_iff_ne, bne_iff_ne, bne_eq_false_iff_eq, Int.not_lt, Int.not_le, ne_eq, Bool.not_eq_true', Bool.not_eq_false', gt_iff_lt, ge_iff_le] at h1
    have hk : i = t.vars.length := by omega
    refine RO.nil ?_
    refine Runs.condF rfl ?_
    refine Runs.exit ?_
    refine thenQ_exit ?_
    refine thenQ_exit ?_
    refine blockQ_here ?_
    refine thenQ_normal ?_
    refine Runs.has [] trivial ?_
    refine Runs.rseq ?_
    refine RO.opv (v' := .d (.bool true)) (opv_assign rfl) rfl ?_
    refine RO.nil ?_
    refine Runs.ret ?_
    refine EndQ.tmp (.inr rfl) rfl rfl 0 (by exact Nat.le_refl _) (by exact Nat.zero_le _) trivial ⟨?_, rfl⟩
    refine bool_eq ?_; unfold Term.lowB; rw [← hi.2, hk, List.take_length]
end Go.Proofs.Ytbpbpkolpldimaa.AM
