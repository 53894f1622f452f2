import Derived.Test.YtljmkgjemmoegaaBg
import Derived.Test.YtljmkgjemmoegaaL0
namespace Go.Proofs.Ytljmkgjemmoegaa.AM
open Go
set_option linter.unusedVariables false
set_option linter.unusedSimpArgs false
theorem compareSees_no (a : Int) (ps : List (Int × Int)) (ts : List Term) (lv : Int) (hps : ps.length ≤ 2 ^ 20) (hb : bulks ts ≤ 2 ^ 20) (e : Int) (hN : newL a (ps.take 60) = (none, e)) : Fn Try.prog 3 [.d (.agg [.int .i64 a, .list (encPs ps)]), .d (.list (encs ts)), .d (.int .i64 lv)] [] (.d (.bool true)) [] := by
  have hlN0 := lnew_fn a (ps.take 60) (by rw [List.length_take]; omega)
  rw [hN] at hlN0
  have hlN : Fn Try.prog 11 [.d (.int .i64 a), .d (.list (encPs (ps.take 60)))] [] (.tup [.d .nilp, .d (.int .i64 e)]) [] := hlN0
  have hxN := tnew_fn a (ps.take 60) (by rw [List.length_take]; omega)
  refine Does.run Try.func3 rfl Try.ntmps3 rfl fun K hK => ?_
  refine Runs.rseq ?_
  refine RO.opn (v' := .ref 0 0) (O' := [_]) (opv_box rfl rfl) rfl rfl ?_
  refine RO.opv (v' := .d (.bool false)) (opv_assign rfl) rfl ?_
  refine RO.nil ?_
  refine Runs.has [(1, .d (.list (encs _))), (2, .d (.int _ _)), (3, .ref 0 0), (6, .d (.bool false))] ⟨rfl, rfl, rfl, rfl, trivial⟩ ?_
  refine Runs.rseq ?_
  refine RO.opv (v' := .d (.bool true)) (opv_callF (shown_fn) rfl rfl rfl trivial) rfl ?_
  refine RO.opv (v' := .d (.bool true)) (opv_assign rfl) rfl ?_
  refine RO.nil ?_
  refine Runs.has [(1, .d (.list (encs _))), (2, .d (.int _ _)), (3, .ref 0 0), (6, .d (.bool false)), (7, .d (.bool true))] ⟨rfl, rfl, rfl, rfl, rfl, trivial⟩ ?_
  refine Runs.rseq ?_
  refine RO.opv (v' := .ref 0 1) (opv_field_ref rfl rfl) rfl ?_
  refine RO.opv (v' := .d (.list (encPs _))) (opv_load_ref rfl rfl rfl) rfl ?_
  refine RO.opv (v' := .d (.list (encPs _))) (opv_assign rfl) rfl ?_
  refine RO.nil ?_
  refine Runs.has [(1, .d (.list (encs _))), (2, .d (.int _ _)), (3, .ref 0 0), (6, .d (.bool false)), (7, .d (.bool true)), (8, .d (.list (encPs _)))] ⟨rfl, rfl, rfl, rfl, rfl, rfl, trivial⟩ ?_
  refine Runs.seq ?_
  refine Runs.rseq ?_
  refine RO.opv (v' := .d (.list (encPs _))) (opv_move rfl) rfl ?_
  refine RO.opv (v' := .d (.int _ _)) (opv_len_pairs rfl) rfl ?_
  refine RO.opc (opv_bin rfl rfl rfl) (fun h1 => ?_) (fun h1 => ?_)
  · try simp only [decide_eq_true_eq, decide_eq_false_iff_not, beq_iff_eq, beq_eq_false_iff_ne, bne_iff_ne, bne_eq_false_iff_eq, Int.not_lt, Int.not_le, ne_eq, Bool.not_eq_true', Bool.not_eq_false', gt_iff_lt, ge_iff_le] at h1
    have h60 := h1
    refine RO.nil ?_
    refine Runs.condT rfl ?_
    refine Runs.has [(1, .d (.list (encs _))), (2, .d (.int _ _)), (3, .ref 0 0), (6, .d (.bool false)), (7, .d (.bool true)), (8, .d (.list (encPs _)))] ⟨rfl, rfl, rfl, rfl, rfl, rfl, trivial⟩ ?_
    refine Runs.region ?_
    refine RO.opv (v' := .d (.list (encPs _))) (opv_move rfl) rfl ?_
    refine RO.opv (v' := .d (.list (encPs _))) (opv_slice_pairs (l := 0) (h := 60) rfl rfl ⟨_, rfl⟩ (by omega) (by omega)) rfl ?_
    refine RO.opv (v' := .d (.list (encPs _))) (opv_assign rfl) rfl ?_
    refine RO.nil ?_
    refine thenQ_normal ?_
    refine Runs.has [(1, .d (.list (encs _))), (2, .d (.int _ _)), (3, .ref 0 0), (6, .d (.bool false)), (7, .d (.bool true)), (8, .d (.list (encPs _)))] ⟨rfl, rfl, rfl, rfl, rfl, rfl, trivial⟩ ?_
    refine Runs.rseq ?_
    refine RO.opv (v' := .ref 0 0) (opv_field_ref rfl rfl) rfl ?_
    refine RO.opv (v' := .d (.int _ _)) (opv_load_ref rfl rfl rfl) rfl ?_
    refine RO.opv (v' := .d (.list (encPs _))) (opv_move rfl) rfl ?_
    refine RO.opv (opv_callF (hlN) rfl rfl rfl ⟨trivial, trivial, trivial⟩) rfl ?_
    refine RO.opv (opv_move rfl) rfl ?_
    refine RO.opv (v' := .d .nilp) (opv_extract rfl rfl) rfl ?_
    refine RO.opv (v' := .d (.int _ _)) (opv_extract rfl rfl) rfl ?_
    refine RO.opv (v' := .d .nilp) (opv_assign rfl) rfl ?_
    refine RO.opv (v' := .d (.int _ _)) (opv_assign rfl) rfl ?_
    refine RO.nil ?_
    refine Runs.has [(1, .d (.list (encs _))), (2, .d (.int _ _)), (3, .ref 0 0), (6, .d (.bool false)), (7, .d (.bool true)), (8, .d (.list (encPs _))), (9, .d .nilp)] ⟨rfl, rfl, rfl, rfl, rfl, rfl, rfl, trivial⟩ ?_
    refine Runs.rseq ?_
    refine RO.opv (v' := .ref 0 0) (opv_field_ref rfl rfl) rfl ?_
    refine RO.opv (v' := .d (.int _ _)) (opv_load_ref rfl rfl rfl) rfl ?_
    refine RO.opv (v' := .d (.list (encPs _))) (opv_move rfl) rfl ?_
    refine RO.opv (opv_callF (hxN) rfl rfl rfl ⟨trivial, trivial, trivial⟩) rfl ?_
    refine RO.opv (opv_move rfl) rfl ?_
    refine RO.opv (v' := .d (encR _)) (opv_extract rfl rfl) rfl ?_
    refine RO.opv (v' := .d (.int _ _)) (opv_extract rfl rfl) rfl ?_
    refine RO.opn (v' := .ref 1 0) (O' := [_, _]) (opv_alloc) rfl rfl ?_
    refine RO.op0n (O' := [_, _]) (opv_store_ref rfl rfl rfl rfl rfl (Nat.le_of_ble_eq_true rfl) rfl) rfl ?_
    refine RO.opv (v' := .d (.int _ _)) (opv_assign rfl) rfl ?_
    refine RO.nil ?_
    refine Runs.has [(1, .d (.list (encs _))), (2, .d (.int _ _)), (6, .d (.bool false)), (7, .d (.bool true)), (9, .d .nilp), (11, .ref 1 0)] ⟨rfl, rfl, rfl, rfl, rfl, rfl, trivial⟩ ?_
    refine Runs.seq ?_
    refine Runs.rseq ?_
    refine RO.opv (v' := .d .nilp) (opv_move rfl) rfl ?_
    refine RO.opv (v' := .d (.bool true)) (opv_eqnil rfl rfl rfl) rfl ?_
    refine RO.opv (v' := .d (.bool true)) (opv_move rfl) rfl ?_
    refine RO.off rfl ?_
    refine RO.off rfl ?_
    refine RO.off rfl ?_
    refine RO.opv (v' := .d (.bool true)) (opv_pick rfl rfl) rfl ?_
    refine RO.nil ?_
    refine Runs.condT rfl ?_
    refine Runs.has [(1, .d (.list (encs _))), (2, .d (.int _ _)), (6, .d (.bool false)), (7, .d (.bool true)), (9, .d .nilp), (11, .ref 1 0)] ⟨rfl, rfl, rfl, rfl, rfl, rfl, trivial⟩ ?_
    refine Runs.rseq ?_
    refine RO.opv (v' := .d (.bool true)) (opv_move rfl) rfl ?_
    refine RO.opv (v' := .d (.bool true)) (opv_assign rfl) rfl ?_
    refine RO.nil ?_
    refine Runs.ret ?_
    refine thenQ_ret ?_
    refine EndQ.tmp (.inr rfl) rfl rfl 0 (by exact Nat.le_refl _) (by exact Nat.zero_le _) trivial ⟨?_, rfl⟩
    rfl
  · try simp only [decide_eq_true_eq, decide_eq_false_iff_not, beq_iff_eq, beq_eq_false_iff_ne, bne_iff_ne, bne_eq_false_iff_eq, Int.not_lt, Int.not_le, ne_eq, Bool.not_eq_true', Bool.not_eq_false', gt_iff_lt, ge_iff_le] at h1
    have h60 : ps.take 60 = ps := List.take_of_length_le (by omega)
    rw [h60] at hlN hxN
    refine RO.nil ?_
    refine Runs.condF rfl ?_
    refine Runs.skip ?_
    refine thenQ_normal ?_
    refine Runs.has [(1, .d (.list (encs _))), (2, .d (.int _ _)), (3, .ref 0 0), (6, .d (.bool false)), (7, .d (.bool true)), (8, .d (.list (encPs _)))] ⟨rfl, rfl, rfl, rfl, rfl, rfl, trivial⟩ ?_
    refine Runs.rseq ?_
    refine RO.opv (v' := .ref 0 0) (opv_field_ref rfl rfl) rfl ?_
    refine RO.opv (v' := .d (.int _ _)) (opv_load_ref rfl rfl rfl) rfl ?_
    refine RO.opv (v' := .d (.list (encPs _))) (opv_move rfl) rfl ?_
    refine RO.opv (opv_callF (hlN) rfl rfl rfl ⟨trivial, trivial, trivial⟩) rfl ?_
    refine RO.opv (opv_move rfl) rfl ?_
    refine RO.opv (v' := .d .nilp) (opv_extract rfl rfl) rfl ?_
    refine RO.opv (v' := .d (.int _ _)) (opv_extract rfl rfl) rfl ?_
    refine RO.opv (v' := .d .nilp) (opv_assign rfl) rfl ?_
    refine RO.opv (v' := .d (.int _ _)) (opv_assign rfl) rfl ?_
    refine RO.nil ?_
    refine Runs.has [(1, .d (.list (encs _))), (2, .d (.int _ _)), (3, .ref 0 0), (6, .d (.bool false)), (7, .d (.bool true)), (8, .d (.list (encPs _))), (9, .d .nilp)] ⟨rfl, rfl, rfl, rfl, rfl, rfl, rfl, trivial⟩ ?_
    refine Runs.rseq ?_
    refine RO.opv (v' := .ref 0 0) (opv_field_ref rfl rfl) rfl ?_
    refine RO.opv (v' := .d (.int _ _)) (opv_load_ref rfl rfl rfl) rfl ?_
    refine RO.opv (v' := .d (.list (encPs _))) (opv_move rfl) rfl ?_
    refine RO.opv (opv_callF (hxN) rfl rfl rfl ⟨trivial, trivial, trivial⟩) rfl ?_
    refine RO.opv (opv_move rfl) rfl ?_
    refine RO.opv (v' := .d (encR _)) (opv_extract rfl rfl) rfl ?_
    refine RO.opv (v' := .d (.int _ _)) (opv_extract rfl rfl) rfl ?_
    refine RO.opn (v' := .ref 1 0) (O' := [_, _]) (opv_alloc) rfl rfl ?_
    refine RO.op0n (O' := [_, _]) (opv_store_ref rfl rfl rfl rfl rfl (Nat.le_of_ble_eq_true rfl) rfl) rfl ?_
    refine RO.opv (v' := .d (.int _ _)) (opv_assign rfl) rfl ?_
    refine RO.nil ?_
    refine Runs.has [(1, .d (.list (encs _))), (2, .d (.int _ _)), (6, .d (.bool false)), (7, .d (.bool true)), (9, .d .nilp), (11, .ref 1 0)] ⟨rfl, rfl, rfl, rfl, rfl, rfl, trivial⟩ ?_
    refine Runs.seq ?_
    refine Runs.rseq ?_
    refine RO.opv (v' := .d .nilp) (opv_move rfl) rfl ?_
    refine RO.opv (v' := .d (.bool true)) (opv_eqnil rfl rfl rfl) rfl ?_
    refine RO.opv (v' := .d (.bool true)) (opv_move rfl) rfl ?_
    refine RO.off rfl ?_
    refine RO.off rfl ?_
    refine RO.off rfl ?_
    refine RO.opv (v' := .d (.bool true)) (opv_pick rfl rfl) rfl ?_
    refine RO.nil ?_
    refine Runs.condT rfl ?_
    refine Runs.has [(1, .d (.list (encs _))), (2, .d (.int _ _)), (6, .d (.bool false)), (7, .d (.bool true)), (9, .d .nilp), (11, .ref 1 0)] ⟨rfl, rfl, rfl, rfl, rfl, rfl, trivial⟩ ?_
    refine Runs.rseq ?_
    refine RO.opv (v' := .d (.bool true)) (opv_move rfl) rfl ?_
    refine RO.opv (v' := .d (.bool true)) (opv_assign rfl) rfl ?_
    refine RO.nil ?_
    refine Runs.ret ?_
    refine thenQ_ret ?_
    refine EndQ.tmp (.inr rfl) rfl rfl 0 (by exact Nat.le_refl _) (by exact Nat.zero_le _) trivial ⟨?_, rfl⟩
    rfl
theorem compareSees_yes (a : Int) (ps : List (Int × Int)) (ts : List Term) (lv : Int) (hps : ps.length ≤ 2 ^ 20) (hb : bulks ts ≤ 2 ^ 20) (l : Lt) (e : Int) (hN : newL a (ps.take 60) = (some l, e)) : Fn Try.prog 3 [.d (.agg [.int .i64 a, .list (encPs ps)]), .d (.list (encs ts)), .d (.int .i64 lv)] [] (.d (.bool true)) [] := by
  have hlN0 := lnew_fn a (ps.take 60) (by rw [List.length_take]; omega)
  rw [hN] at hlN0
  obtain ⟨hl, hx2, hM⟩ := new_mt hN
  have hlN : Fn Try.prog 11 [.d (.int .i64 a), .d (.list (encPs (ps.take 60)))] [] (.tup [.d (encL l), .d (.int .i64 e)]) [] := hlN0
  have hxN := tnew_fn a (ps.take 60) (by rw [List.length_take]; omega)
  generalize hMe : (newR a (ps.take 60)).1 = M at hM hxN
  have hL := bulks_len ts
  have p1 := plain_bulk ts
  have b1 := low_bulk l lv ts
  refine Does.run Try.func3 rfl Try.ntmps3 rfl fun K hK => ?_
  refine Runs.rseq ?_
  refine RO.opn (v' := .ref 0 0) (O' := [_]) (opv_box rfl rfl) rfl rfl ?_
  refine RO.opv (v' := .d (.bool false)) (opv_assign rfl) rfl ?_
  refine RO.nil ?_
  refine Runs.has [(1, .d (.list (encs _))), (2, .d (.int _ _)), (3, .ref 0 0), (6, .d (.bool false))] ⟨rfl, rfl, rfl, rfl, trivial⟩ ?_
  refine Runs.rseq ?_
  refine RO.opv (v' := .d (.bool true)) (opv_callF (shown_fn) rfl rfl rfl trivial) rfl ?_
  refine RO.opv (v' := .d (.bool true)) (opv_assign rfl) rfl ?_
  refine RO.nil ?_
  refine Runs.has [(1, .d (.list (encs _))), (2, .d (.int _ _)), (3, .ref 0 0), (6, .d (.bool false)), (7, .d (.bool true))] ⟨rfl, rfl, rfl, rfl, rfl, trivial⟩ ?_
  refine Runs.rseq ?_
  refine RO.opv (v' := .ref 0 1) (opv_field_ref rfl rfl) rfl ?_
  refine RO.opv (v' := .d (.list (encPs _))) (opv_load_ref rfl rfl rfl) rfl ?_
  refine RO.opv (v' := .d (.list (encPs _))) (opv_assign rfl) rfl ?_
  refine RO.nil ?_
  refine Runs.has [(1, .d (.list (encs _))), (2, .d (.int _ _)), (3, .ref 0 0), (6, .d (.bool false)), (7, .d (.bool true)), (8, .d (.list (encPs _)))] ⟨rfl, rfl, rfl, rfl, rfl, rfl, trivial⟩ ?_
  refine Runs.seq ?_
  refine Runs.rseq ?_
  refine RO.opv (v' := .d (.list (encPs _))) (opv_move rfl) rfl ?_
  refine RO.opv (v' := .d (.int _ _)) (opv_len_pairs rfl) rfl ?_
  refine RO.opc (opv_bin rfl rfl rfl) (fun h1 => ?_) (fun h1 => ?_)
  · try simp only [decide_eq_true_eq, decide_eq_false_iff_not, beq_iff_eq, beq_eq_false_iff_ne, bne_iff_ne, bne_eq_false_iff_eq, Int.not_lt, Int.not_le, ne_eq, Bool.not_eq_true', Bool.not_eq_false', gt_iff_lt, ge_iff_le] at h1
    have h60 := h1
    refine RO.nil ?_
    refine Runs.condT rfl ?_
    refine Runs.has [(1, .d (.list (encs _))), (2, .d (.int _ _)), (3, .ref 0 0), (6, .d (.bool false)), (7, .d (.bool true)), (8, .d (.list (encPs _)))] ⟨rfl, rfl, rfl, rfl, rfl, rfl, trivial⟩ ?_
    refine Runs.region ?_
    refine RO.opv (v' := .d (.list (encPs _))) (opv_move rfl) rfl ?_
    refine RO.opv (v' := .d (.list (encPs _))) (opv_slice_pairs (l := 0) (h := 60) rfl rfl ⟨_, rfl⟩ (by omega) (by omega)) rfl ?_
    refine RO.opv (v' := .d (.list (encPs _))) (opv_assign rfl) rfl ?_
    refine RO.nil ?_
    refine thenQ_normal ?_
    refine Runs.has [(1, .d (.list (encs _))), (2, .d (.int _ _)), (3, .ref 0 0), (6, .d (.bool false)), (7, .d (.bool true)), (8, .d (.list (encPs _)))] ⟨rfl, rfl, rfl, rfl, rfl, rfl, trivial⟩ ?_
    refine Runs.rseq ?_
    refine RO.opv (v' := .ref 0 0) (opv_field_ref rfl rfl) rfl ?_
    refine RO.opv (v' := .d (.int _ _)) (opv_load_ref rfl rfl rfl) rfl ?_
    refine RO.opv (v' := .d (.list (encPs _))) (opv_move rfl) rfl ?_
    refine RO.opv (opv_callF (hlN) rfl rfl rfl ⟨trivial, trivial, trivial⟩) rfl ?_
    refine RO.opv (opv_move rfl) rfl ?_
    refine RO.opv (v' := .d (encL _)) (opv_extract rfl rfl) rfl ?_
    refine RO.opv (v' := .d (.int _ _)) (opv_extract rfl rfl) rfl ?_
    refine RO.opv (v' := .d (encL _)) (opv_assign rfl) rfl ?_
    refine RO.opv (v' := .d (.int _ _)) (opv_assign rfl) rfl ?_
    refine RO.nil ?_
    refine Runs.has [(1, .d (.list (encs _))), (2, .d (.int _ _)), (3, .ref 0 0), (6, .d (.bool false)), (7, .d (.bool true)), (8, .d (.list (encPs _))), (9, .d (encL _))] ⟨rfl, rfl, rfl, rfl, rfl, rfl, rfl, trivial⟩ ?_
    refine Runs.rseq ?_
    refine RO.opv (v' := .ref 0 0) (opv_field_ref rfl rfl) rfl ?_
    refine RO.opv (v' := .d (.int _ _)) (opv_load_ref rfl rfl rfl) rfl ?_
    refine RO.opv (v' := .d (.list (encPs _))) (opv_move rfl) rfl ?_
    refine RO.opv (opv_callF (hxN) rfl rfl rfl ⟨trivial, trivial, trivial⟩) rfl ?_
    refine RO.opv (opv_move rfl) rfl ?_
    refine RO.opv (v' := .d (encR _)) (opv_extract rfl rfl) rfl ?_
    refine RO.opv (v' := .d (.int _ _)) (opv_extract rfl rfl) rfl ?_
    refine RO.opn (v' := .ref 1 0) (O' := [_, _]) (opv_alloc) rfl rfl ?_
    refine RO.op0n (O' := [_, _]) (opv_store_ref rfl rfl rfl rfl rfl (Nat.le_of_ble_eq_true rfl) rfl) rfl ?_
    refine RO.opv (v' := .d (.int _ _)) (opv_assign rfl) rfl ?_
    refine RO.nil ?_
    refine Runs.has [(1, .d (.list (encs _))), (2, .d (.int _ _)), (6, .d (.bool false)), (7, .d (.bool true)), (9, .d (encL _)), (11, .ref 1 0)] ⟨rfl, rfl, rfl, rfl, rfl, rfl, trivial⟩ ?_
    refine Runs.seq ?_
    refine Runs.rseq ?_
    refine RO.opv (v' := .d (encL _)) (opv_move rfl) rfl ?_
    refine RO.opv (v' := .d (.bool false)) (opv_eqnil rfl rfl rfl) rfl ?_
    refine RO.opv (v' := .d (.bool false)) (opv_move rfl) rfl ?_
    refine RO.opgv (v' := .d (.list (encs _))) rfl (opv_move rfl) rfl ?_
    refine RO.opgv (v' := .d (.bool _)) rfl (opv_callF (few_fn ts (by omega)) rfl rfl rfl trivial) rfl ?_
    refine RO.opgv (v' := .d (.bool _)) rfl (opv_not rfl rfl) rfl ?_
    refine RO.opc (opv_pick rfl rfl) (fun h2 => ?_) (fun h2 => ?_)
    · try simp only [decide_eq_true_eq, decide_eq_false_iff_not, beq_iff_eq, beq_eq_false_iff_ne, bne_iff_ne, bne_eq_false_iff_eq, Int.not_lt, Int.not_le, ne_eq, Bool.not_eq_true', Bool.not_eq_false', gt_iff_lt, ge_iff_le] at h2
      refine RO.nil ?_
      refine Runs.condT rfl ?_
      refine Runs.has [(1, .d (.list (encs _))), (2, .d (.int _ _)), (6, .d (.bool false)), (7, .d (.bool true)), (9, .d (encL _)), (11, .ref 1 0)] ⟨rfl, rfl, rfl, rfl, rfl, rfl, trivial⟩ ?_
      refine Runs.rseq ?_
      refine RO.opv (v' := .d (.bool true)) (opv_move rfl) rfl ?_
      refine RO.opv (v' := .d (.bool true)) (opv_assign rfl) rfl ?_
      refine RO.nil ?_
      refine Runs.ret ?_
      refine thenQ_ret ?_
      refine EndQ.tmp (.inr rfl) rfl rfl 0 (by exact Nat.le_refl _) (by exact Nat.zero_le _) trivial ⟨?_, rfl⟩
      rfl
    · try simp only [decide_eq_true_eq, decide_eq_false_iff_not, beq_iff_eq, beq_eq_false_iff_ne, bne_iff_ne, bne_eq_false_iff_eq, Int.not_lt, Int.not_le, ne_eq, Bool.not_eq_true', Bool.not_eq_false', gt_iff_lt, ge_iff_le] at h2
      refine RO.nil ?_
      refine Runs.condF rfl ?_
      refine Runs.skip ?_
      refine thenQ_normal ?_
      refine Runs.has [(1, .d (.list (encs _))), (2, .d (.int _ _)), (6, .d (.bool false)), (7, .d (.bool true)), (9, .d (encL _)), (11, .ref 1 0)] ⟨rfl, rfl, rfl, rfl, rfl, rfl, trivial⟩ ?_
      refine Runs.seq ?_
      refine Runs.rseq ?_
      refine RO.opv (v' := .d (.int _ _)) (opv_assign rfl) rfl ?_
      refine RO.nil ?_
      refine Runs.block ?_
      refine Runs.loopC (X := Nat) (fun i => i ≤ ts.length) (fun i => ts.length - i) [(1, .d (.list (encs _))), (2, .d (.int _ _)), (7, .d (.bool true)), (9, .d (encL _)), (11, .ref 1 0)] (fun i => [(13, .d (.int .i64 (i : Nat)))]) [_, _] (fun i => []) (0) ⟨rfl, rfl, rfl, rfl, rfl, trivial⟩ ⟨rfl, trivial⟩ rfl (by omega) fun i hi => ?_
      refine Runs.seq ?_
      refine Runs.rseq ?_
      refine RO.opv (v' := .d (.int _ _)) (opv_move rfl) rfl ?_
      refine RO.opv (v' := .d (.list (encs _))) (opv_move rfl) rfl ?_
      refine RO.opv (v' := .d (.int _ _)) (opv_len_terms rfl) rfl ?_
      refine RO.opc (opv_bin rfl rfl rfl) (fun h3 => ?_) (fun h3 => ?_)
      · try simp only [decide_eq_true_eq, decide_eq_false_iff_not, beq_iff_eq, beq_eq_false_iff_ne, bne_iff_ne, bne_eq_false_iff_eq, Int.not_lt, Int.not_le, ne_eq, Bool.not_eq_true', Bool.not_eq_false', gt_iff_lt, ge_iff_le] at h3
        have hk : i < ts.length := by omega
        have hbi := bulks_mem (List.getElem_mem hk)
        have hsb := see_bulk l lv ts[i]
        refine RO.nil ?_
        refine Runs.condT rfl ?_
        refine Runs.skip ?_
        refine thenQ_normal ?_
        refine Runs.has [(1, .d (.list (encs _))), (2, .d (.int _ _)), (7, .d (.bool true)), (9, .d (encL _)), (11, .ref 1 0), (13, .d (.int _ _))] ⟨rfl, rfl, rfl, rfl, rfl, rfl, trivial⟩ ?_
        refine Runs.seq ?_
        refine Runs.block ?_
        refine Runs.seq ?_
        refine Runs.drawn (by kernel_rfl) [] [false, false, false, false, false, false, false, false, false, false, false, false, false, false, false, false] [false, false, false, false, false, false, false, false, false, false, false, false, false, false, false, false] (by decide +kernel) ?_
        refine RD.opv (v' := .d (encL _)) (opv_move rfl) rfl ?_
        refine RD.opv (v' := .d (.list (encs _))) (opv_move rfl) rfl ?_
        refine RD.opv (v' := .d (.int _ _)) (opv_move rfl) rfl ?_
        refine RD.opv (v' := .d (.ptr _)) (opv_index_terms rfl rfl (by omega)) rfl ?_
        refine RD.opv (v' := .d (enc _)) (opv_load_pterm rfl) rfl ?_
        refine RD.opv (v' := .d (.int _ _)) (opv_move rfl) rfl ?_
        refine RD.opv (v' := .d (enc _)) (opv_callF (seen_fn l hl ts[i] lv (by omega)) rfl rfl rfl trivial) rfl ?_
        refine RD.opv (v' := .d (encR _)) (opv_load_ref rfl rfl rfl) rfl ?_
        refine RD.opv (v' := .d (.list (encs _))) (opv_move rfl) rfl ?_
        refine RD.opv (v' := .d (.int _ _)) (opv_move rfl) rfl ?_
        refine RD.opv (v' := .d (.ptr _)) (opv_index_terms rfl rfl (by omega)) rfl ?_
        refine RD.opv (v' := .d (enc _)) (opv_load_pterm rfl) rfl ?_
        refine RD.opv (v' := .d (.int _ _)) (opv_move rfl) rfl ?_
        refine RD.opv (v' := .d (enc _)) (opv_callF (rseen_fn M l hM ts[i] lv (by omega)) rfl rfl rfl trivial) rfl ?_
        refine RD.opv (v' := .d (.bool _)) (opv_callF (rsame_fn (ts[i].see l lv) (ts[i].see l lv) (by omega) (by omega)) rfl rfl rfl trivial) rfl ?_
        refine RD.opc (opv_not rfl rfl) (fun h4 => ?_) (fun h4 => ?_)
        · try simp only [decide_eq_true_eq, decide_eq_false_iff_not, beq_iff_eq, beq_eq_false_iff_ne, bne_iff_ne, bne_eq_false_iff_eq, Int.not_lt, Int.not_le, ne_eq, Bool.not_eq_true', Bool.not_eq_false', gt_iff_lt, ge_iff_le] at h4
          rw [(same_iff _ _).2 rfl] at h4; cases h4
        · try simp only [decide_eq_true_eq, decide_eq_false_iff_not, beq_iff_eq, beq_eq_false_iff_ne, bne_iff_ne, bne_eq_false_iff_eq, Int.not_lt, Int.not_le, ne_eq, Bool.not_eq_true', Bool.not_eq_false', gt_iff_lt, ge_iff_le] at h4
          refine RD.nil ?_
          refine thenQ_normal ?_
          refine Runs.condF rfl ?_
          refine Runs.skip ?_
          refine blockQ_normal ?_
          refine thenQ_normal ?_
          refine Runs.has [(1, .d (.list (encs _))), (2, .d (.int _ _)), (7, .d (.bool true)), (9, .d (encL _)), (11, .ref 1 0), (13, .d (.int _ _))] ⟨rfl, rfl, rfl, rfl, rfl, rfl, trivial⟩ ?_
          refine Runs.region ?_
          refine RO.opv (v' := .d (.int _ _)) (opv_move rfl) rfl ?_
          refine RO.opv (v' := .d (.int _ _)) (opv_bin rfl rfl rfl) rfl ?_
          refine RO.opv (v' := .d (.int _ _)) (opv_assign rfl) rfl ?_
          refine RO.nil ?_
          refine thenQ_normal ?_
          refine ⟨i + 1, 2, (by rw [hK]; exact Nat.le_of_ble_eq_true rfl), ⟨rfl, rfl, rfl, rfl, rfl, trivial⟩, ⟨?_, trivial⟩, rfl, ?_, ?_⟩
          · refine int_eq ?_; rw [wrap64 (by omega) (by omega)]; omega
          · omega
          · omega
      · try simp only [decide_eq_true_eq, decide_eq_false_iff_not, beq_iff_eq, beq_eq_false_iff_ne, bne_iff_ne, bne_eq_false_iff_eq, Int.not_lt, Int.not_le, ne_eq, Bool.not_eq_true', Bool.not_eq_false', gt_iff_lt, ge_iff_le] at h3
        have hk : i = ts.length := by omega
        refine RO.nil ?_
        refine Runs.condF rfl ?_
        refine Runs.exit ?_
        refine thenQ_exit ?_
        refine thenQ_exit ?_
        refine blockQ_here ?_
        refine thenQ_normal ?_
        refine Runs.has [(1, .d (.list (encs _))), (2, .d (.int _ _)), (7, .d (.bool true)), (9, .d (encL _)), (11, .ref 1 0)] ⟨rfl, rfl, rfl, rfl, rfl, trivial⟩ ?_
        refine Runs.seq ?_
        refine Runs.drawn (by kernel_rfl) [] [false, false, false, false, false, false, false, false, false, false, false, false, false, false, false, false, false, false, false, false] [false, false, false, false, false, false, false, false, false, false, false, false, false, false, false, false, false, false, false, false] (by decide +kernel) ?_
        refine RD.opv (v' := .d (.bool true)) (opv_move rfl) rfl ?_
        refine RD.opv (v' := .d (.bool true)) (opv_move rfl) rfl ?_
        refine RD.opgv (v' := .d (.list (encs _))) rfl (opv_move rfl) rfl ?_
        refine RD.opgv (v' := .d (.list (encs _))) rfl (opv_callF (plain_fn ts (by omega)) rfl rfl rfl trivial) rfl ?_
        refine RD.opgv (v' := .d (.list (encs _))) rfl (opv_move rfl) rfl ?_
        refine RD.opgv (v' := .d (.list (encs _))) rfl (opv_callF (rplain_fn ts (by omega)) rfl rfl rfl trivial) rfl ?_
        refine RD.opgv (v' := .d (.bool _)) rfl (opv_callF (lists_fn (plain ts) (plain ts) (by omega) (by omega)) rfl rfl rfl trivial) rfl ?_
        refine RD.opv (v' := .d (.bool _)) (opv_pick rfl rfl) rfl ?_
        refine RD.opc (opv_move rfl) (fun h5 => ?_) (fun h5 => ?_)
        · try simp only [decide_eq_true_eq, decide_eq_false_iff_not, beq_iff_eq, beq_eq_false_iff_ne, bne_iff_ne, bne_eq_false_iff_eq, Int.not_lt, Int.not_le, ne_eq, Bool.not_eq_true', Bool.not_eq_false', gt_iff_lt, ge_iff_le] at h5
          refine RD.opgv (v' := .d (encL _)) rfl (opv_move rfl) rfl ?_
          refine RD.opgv (v' := .d (.list (encs _))) rfl (opv_move rfl) rfl ?_
          refine RD.opgv (v' := .d (.int _ _)) rfl (opv_move rfl) rfl ?_
          refine RD.opgv (v' := .d (.list (encs _))) rfl (opv_callF (low_fn l hl ts lv (by omega)) rfl rfl rfl trivial) rfl ?_
          refine RD.opgv (v' := .d (encR _)) rfl (opv_load_ref rfl rfl rfl) rfl ?_
          refine RD.opgv (v' := .d (.list (encs _))) rfl (opv_move rfl) rfl ?_
          refine RD.opgv (v' := .d (.int _ _)) rfl (opv_move rfl) rfl ?_
          refine RD.opgv (v' := .d (.list (encs _))) rfl (opv_callF (rlow_fn M l hM ts lv (by omega)) rfl rfl rfl trivial) rfl ?_
          refine RD.opgv (v' := .d (.bool _)) rfl (opv_callF (lists_fn (low l lv ts) (low l lv ts) (by omega) (by omega)) rfl rfl rfl trivial) rfl ?_
          refine RD.opv (v' := .d (.bool _)) (opv_pick rfl rfl) rfl ?_
          refine RD.opv (v' := .d (.bool _)) (opv_assign rfl) rfl ?_
          refine RD.nil ?_
          refine thenQ_normal ?_
          refine Runs.ret ?_
          refine EndQ.tmp (.inr rfl) rfl rfl 0 (by exact Nat.le_refl _) (by exact Nat.zero_le _) trivial ⟨?_, rfl⟩
          refine bool_eq ?_; first | rfl | exact (sames_iff _ _).2 rfl
        · try simp only [decide_eq_true_eq, decide_eq_false_iff_not, beq_iff_eq, beq_eq_false_iff_ne, bne_iff_ne, bne_eq_false_iff_eq, Int.not_lt, Int.not_le, ne_eq, Bool.not_eq_true', Bool.not_eq_false', gt_iff_lt, ge_iff_le] at h5
          rw [(sames_iff _ _).2 rfl] at h5; cases h5
  · try simp only [decide_eq_true_eq, decide_eq_false_iff_not, beq_iff_eq, beq_eq_false_iff_ne, bne_iff_ne, bne_eq_false_iff_eq, Int.not_lt, Int.not_le, ne_eq, Bool.not_eq_true', Bool.not_eq_false', gt_iff_lt, ge_iff_le] at h1
    have h60 : ps.take 60 = ps := List.take_of_length_le (by omega)
    rw [h60] at hlN hxN
    refine RO.nil ?_
    refine Runs.condF rfl ?_
    refine Runs.skip ?_
    refine thenQ_normal ?_
    refine Runs.has [(1, .d (.list (encs _))), (2, .d (.int _ _)), (3, .ref 0 0), (6, .d (.bool false)), (7, .d (.bool true)), (8, .d (.list (encPs _)))] ⟨rfl, rfl, rfl, rfl, rfl, rfl, trivial⟩ ?_
    refine Runs.rseq ?_
    refine RO.opv (v' := .ref 0 0) (opv_field_ref rfl rfl) rfl ?_
    refine RO.opv (v' := .d (.int _ _)) (opv_load_ref rfl rfl rfl) rfl ?_
    refine RO.opv (v' := .d (.list (encPs _))) (opv_move rfl) rfl ?_
    refine RO.opv (opv_callF (hlN) rfl rfl rfl ⟨trivial, trivial, trivial⟩) rfl ?_
    refine RO.opv (opv_move rfl) rfl ?_
    refine RO.opv (v' := .d (encL _)) (opv_extract rfl rfl) rfl ?_
    refine RO.opv (v' := .d (.int _ _)) (opv_extract rfl rfl) rfl ?_
    refine RO.opv (v' := .d (encL _)) (opv_assign rfl) rfl ?_
    refine RO.opv (v' := .d (.int _ _)) (opv_assign rfl) rfl ?_
    refine RO.nil ?_
    refine Runs.has [(1, .d (.list (encs _))), (2, .d (.int _ _)), (3, .ref 0 0), (6, .d (.bool false)), (7, .d (.bool true)), (8, .d (.list (encPs _))), (9, .d (encL _))] ⟨rfl, rfl, rfl, rfl, rfl, rfl, rfl, trivial⟩ ?_
    refine Runs.rseq ?_
    refine RO.opv (v' := .ref 0 0) (opv_field_ref rfl rfl) rfl ?_
    refine RO.opv (v' := .d (.int _ _)) (opv_load_ref rfl rfl rfl) rfl ?_
    refine RO.opv (v' := .d (.list (encPs _))) (opv_move rfl) rfl ?_
    refine RO.opv (opv_callF (hxN) rfl rfl rfl ⟨trivial, trivial, trivial⟩) rfl ?_
    refine RO.opv (opv_move rfl) rfl ?_
    refine RO.opv (v' := .d (encR _)) (opv_extract rfl rfl) rfl ?_
    refine RO.opv (v' := .d (.int _ _)) (opv_extract rfl rfl) rfl ?_
    refine RO.opn (v' := .ref 1 0) (O' := [_, _]) (opv_alloc) rfl rfl ?_
    refine RO.op0n (O' := [_, _]) (opv_store_ref rfl rfl rfl rfl rfl (Nat.le_of_ble_eq_true rfl) rfl) rfl ?_
    refine RO.opv (v' := .d (.int _ _)) (opv_assign rfl) rfl ?_
    refine RO.nil ?_
    refine Runs.has [(1, .d (.list (encs _))), (2, .d (.int _ _)), (6, .d (.bool false)), (7, .d (.bool true)), (9, .d (encL _)), (11, .ref 1 0)] ⟨rfl, rfl, rfl, rfl, rfl, rfl, trivial⟩ ?_
    refine Runs.seq ?_
    refine Runs.rseq ?_
    refine RO.opv (v' := .d (encL _)) (opv_move rfl) rfl ?_
    refine RO.opv (v' := .d (.bool false)) (opv_eqnil rfl rfl rfl) rfl ?_
    refine RO.opv (v' := .d (.bool false)) (opv_move rfl) rfl ?_
    refine RO.opgv (v' := .d (.list (encs _))) rfl (opv_move rfl) rfl ?_
    refine RO.opgv (v' := .d (.bool _)) rfl (opv_callF (few_fn ts (by omega)) rfl rfl rfl trivial) rfl ?_
    refine RO.opgv (v' := .d (.bool _)) rfl (opv_not rfl rfl) rfl ?_
    refine RO.opc (opv_pick rfl rfl) (fun h6 => ?_) (fun h6 => ?_)
    · try simp only [decide_eq_true_eq, decide_eq_false_iff_not, beq_iff_eq, beq_eq_false_iff_ne, bne_iff_ne, bne_eq_false_iff_eq, Int.not_lt, Int.not_le, ne_eq, Bool.not_eq_true', Bool.not_eq_false', gt_iff_lt, ge_iff_le] at h6
      refine RO.nil ?_
      refine Runs.condT rfl ?_
      refine Runs.has [(1, .d (.list (encs _))), (2, .d (.int _ _)), (6, .d (.bool false)), (7, .d (.bool true)), (9, .d (encL _)), (11, .ref 1 0)] ⟨rfl, rfl, rfl, rfl, rfl, rfl, trivial⟩ ?_
      refine Runs.rseq ?_
      refine RO.opv (v' := .d (.bool true)) (opv_move rfl) rfl ?_
      refine RO.opv (v' := .d (.bool true)) (opv_assign rfl) rfl ?_
      refine RO.nil ?_
      refine Runs.ret ?_
      refine thenQ_ret ?_
      refine EndQ.tmp (.inr rfl) rfl rfl 0 (by exact Nat.le_refl _) (by exact Nat.zero_le _) trivial ⟨?_, rfl⟩
      refine bool_eq ?_; first | rfl | exact (sames_iff _ _).2 rfl
    · try simp only [decide_eq_true_eq, decide_eq_false_iff_not, beq_iff_eq, beq_eq_false_iff_ne, bne_iff_ne, bne_eq_false_iff_eq, Int.not_lt, Int.not_le, ne_eq, Bool.not_eq_true', Bool.not_eq_false', gt_iff_lt, ge_iff_le] at h6
      refine RO.nil ?_
      refine Runs.condF rfl ?_
      refine Runs.skip ?_
      refine thenQ_normal ?_
      refine Runs.has [(1, .d (.list (encs _))), (2, .d (.int _ _)), (6, .d (.bool false)), (7, .d (.bool true)), (9, .d (encL _)), (11, .ref 1 0)] ⟨rfl, rfl, rfl, rfl, rfl, rfl, trivial⟩ ?_
      refine Runs.seq ?_
      refine Runs.rseq ?_
      refine RO.opv (v' := .d (.int _ _)) (opv_assign rfl) rfl ?_
      refine RO.nil ?_
      refine Runs.block ?_
      refine Runs.loopC (X := Nat) (fun i => i ≤ ts.length) (fun i => ts.length - i) [(1, .d (.list (encs _))), (2, .d (.int _ _)), (7, .d (.bool true)), (9, .d (encL _)), (11, .ref 1 0)] (fun i => [(13, .d (.int .i64 (i : Nat)))]) [_, _] (fun i => []) (0) ⟨rfl, rfl, rfl, rfl, rfl, trivial⟩ ⟨rfl, trivial⟩ rfl (by omega) fun i hi => ?_
      refine Runs.seq ?_
      refine Runs.rseq ?_
      refine RO.opv (v' := .d (.int _ _)) (opv_move rfl) rfl ?_
      refine RO.opv (v' := .d (.list (encs _))) (opv_move rfl) rfl ?_
      refine RO.opv (v' := .d (.int _ _)) (opv_len_terms rfl) rfl ?_
      refine RO.opc (opv_bin rfl rfl rfl) (fun h7 => ?_) (fun h7 => ?_)
      · try simp only [decide_eq_true_eq, decide_eq_false_iff_not, beq_iff_eq, beq_eq_false_iff_ne, bne_iff_ne, bne_eq_false_iff_eq, Int.not_lt, Int.not_le, ne_eq, Bool.not_eq_true', Bool.not_eq_false', gt_iff_lt, ge_iff_le] at h7
        have hk : i < ts.length := by omega
        have hbi := bulks_mem (List.getElem_mem hk)
        have hsb := see_bulk l lv ts[i]
        refine RO.nil ?_
        refine Runs.condT rfl ?_
        refine Runs.skip ?_
        refine thenQ_normal ?_
        refine Runs.has [(1, .d (.list (encs _))), (2, .d (.int _ _)), (7, .d (.bool true)), (9, .d (encL _)), (11, .ref 1 0), (13, .d (.int _ _))] ⟨rfl, rfl, rfl, rfl, rfl, rfl, trivial⟩ ?_
        refine Runs.seq ?_
        refine Runs.block ?_
        refine Runs.seq ?_
        refine Runs.drawn (by kernel_rfl) [] [false, false, false, false, false, false, false, false, false, false, false, false, false, false, false, false] [false, false, false, false, false, false, false, false, false, false, false, false, false, false, false, false] (by decide +kernel) ?_
        refine RD.opv (v' := .d (encL _)) (opv_move rfl) rfl ?_
        refine RD.opv (v' := .d (.list (encs _))) (opv_move rfl) rfl ?_
        refine RD.opv (v' := .d (.int _ _)) (opv_move rfl) rfl ?_
        refine RD.opv (v' := .d (.ptr _)) (opv_index_terms rfl rfl (by omega)) rfl ?_
        refine RD.opv (v' := .d (enc _)) (opv_load_pterm rfl) rfl ?_
        refine RD.opv (v' := .d (.int _ _)) (opv_move rfl) rfl ?_
        refine RD.opv (v' := .d (enc _)) (opv_callF (seen_fn l hl ts[i] lv (by omega)) rfl rfl rfl trivial) rfl ?_
        refine RD.opv (v' := .d (encR _)) (opv_load_ref rfl rfl rfl) rfl ?_
        refine RD.opv (v' := .d (.list (encs _))) (opv_move rfl) rfl ?_
        refine RD.opv (v' := .d (.int _ _)) (opv_move rfl) rfl ?_
        refine RD.opv (v' := .d (.ptr _)) (opv_index_terms rfl rfl (by omega)) rfl ?_
        refine RD.opv (v' := .d (enc _)) (opv_load_pterm rfl) rfl ?_
        refine RD.opv (v' := .d (.int _ _)) (opv_move rfl) rfl ?_
        refine RD.opv (v' := .d (enc _)) (opv_callF (rseen_fn M l hM ts[i] lv (by omega)) rfl rfl rfl trivial) rfl ?_
        refine RD.opv (v' := .d (.bool _)) (opv_callF (rsame_fn (ts[i].see l lv) (ts[i].see l lv) (by omega) (by omega)) rfl rfl rfl trivial) rfl ?_
        refine RD.opc (opv_not rfl rfl) (fun h8 => ?_) (fun h8 => ?_)
        · try simp only [decide_eq_true_eq, decide_eq_false_iff_not, beq_iff_eq, beq_eq_false_iff_ne, bne_iff_ne, bne_eq_false_iff_eq, Int.not_lt, Int.not_le, ne_eq, Bool.not_eq_true', Bool.not_eq_false', gt_iff_lt, ge_iff_le] at h8
          rw [(same_iff _ _).2 rfl] at h8; cases h8
        · try simp only [decide_eq_true_eq, decide_eq_false_iff_not, beq_iff_eq, beq_eq_false_iff_ne, bne_iff_ne, bne_eq_false_iff_eq, Int.not_lt, Int.not_le, ne_eq, Bool.not_eq_true', Bool.not_eq_false', gt_iff_lt, ge_iff_le] at h8
          refine RD.nil ?_
          refine thenQ_normal ?_
          refine Runs.condF rfl ?_
          refine Runs.skip ?_
          refine blockQ_normal ?_
          refine thenQ_normal ?_
          refine Runs.has [(1, .d (.list (encs _))), (2, .d (.int _ _)), (7, .d (.bool true)), (9, .d (encL _)), (11, .ref 1 0), (13, .d (.int _ _))] ⟨rfl, rfl, rfl, rfl, rfl, rfl, trivial⟩ ?_
          refine Runs.region ?_
          refine RO.opv (v' := .d (.int _ _)) (opv_move rfl) rfl ?_
          refine RO.opv (v' := .d (.int _ _)) (opv_bin rfl rfl rfl) rfl ?_
          refine RO.opv (v' := .d (.int _ _)) (opv_assign rfl) rfl ?_
          refine RO.nil ?_
          refine thenQ_normal ?_
          refine ⟨i + 1, 2, (by rw [hK]; exact Nat.le_of_ble_eq_true rfl), ⟨rfl, rfl, rfl, rfl, rfl, trivial⟩, ⟨?_, trivial⟩, rfl, ?_, ?_⟩
          · refine int_eq ?_; rw [wrap64 (by omega) (by omega)]; omega
          · omega
          · omega
      · try simp only [decide_eq_true_eq, decide_eq_false_iff_not, beq_iff_eq, beq_eq_false_iff_ne, bne_iff_ne, bne_eq_false_iff_eq, Int.not_lt, Int.not_le, ne_eq, Bool.not_eq_true', Bool.not_eq_false', gt_iff_lt, ge_iff_le] at h7
        have hk : i = ts.length := by omega
        refine RO.nil ?_
        refine Runs.condF rfl ?_
        refine Runs.exit ?_
        refine thenQ_exit ?_
        refine thenQ_exit ?_
        refine blockQ_here ?_
        refine thenQ_normal ?_
        refine Runs.has [(1, .d (.list (encs _))), (2, .d (.int _ _)), (7, .d (.bool true)), (9, .d (encL _)), (11, .ref 1 0)] ⟨rfl, rfl, rfl, rfl, rfl, trivial⟩ ?_
        refine Runs.seq ?_
        refine Runs.drawn (by kernel_rfl) [] [false, false, false, false, false, false, false, false, false, false, false, false, false, false, false, false, false, false, false, false] [false, false, false, false, false, false, false, false, false, false, false, false, false, false, false, false, false, false, false, false] (by decide +kernel) ?_
        refine RD.opv (v' := .d (.bool true)) (opv_move rfl) rfl ?_
        refine RD.opv (v' := .d (.bool true)) (opv_move rfl) rfl ?_
        refine RD.opgv (v' := .d (.list (encs _))) rfl (opv_move rfl) rfl ?_
        refine RD.opgv (v' := .d (.list (encs _))) rfl (opv_callF (plain_fn ts (by omega)) rfl rfl rfl trivial) rfl ?_
        refine RD.opgv (v' := .d (.list (encs _))) rfl (opv_move rfl) rfl ?_
        refine RD.opgv (v' := .d (.list (encs _))) rfl (opv_callF (rplain_fn ts (by omega)) rfl rfl rfl trivial) rfl ?_
        refine RD.opgv (v' := .d (.bool _)) rfl (opv_callF (lists_fn (plain ts) (plain ts) (by omega) (by omega)) rfl rfl rfl trivial) rfl ?_
        refine RD.opv (v' := .d (.bool _)) (opv_pick rfl rfl) rfl ?_
        refine RD.opc (opv_move rfl) (fun h9 => ?_) (fun h9 => ?_)
        · try simp only [decide_eq_true_eq, decide_eq_false_iff_not, beq_iff_eq, beq_eq_false_iff_ne, bne_iff_ne, bne_eq_false_iff_eq, Int.not_lt, Int.not_le, ne_eq, Bool.not_eq_true', Bool.not_eq_false', gt_iff_lt, ge_iff_le] at h9
          refine RD.opgv (v' := .d (encL _)) rfl (opv_move rfl) rfl ?_
          refine RD.opgv (v' := .d (.list (encs _))) rfl (opv_move rfl) rfl ?_
          refine RD.opgv (v' := .d (.int _ _)) rfl (opv_move rfl) rfl ?_
          refine RD.opgv (v' := .d (.list (encs _))) rfl (opv_callF (low_fn l hl ts lv (by omega)) rfl rfl rfl trivial) rfl ?_
          refine RD.opgv (v' := .d (encR _)) rfl (opv_load_ref rfl rfl rfl) rfl ?_
          refine RD.opgv (v' := .d (.list (encs _))) rfl (opv_move rfl) rfl ?_
          refine RD.opgv (v' := .d (.int _ _)) rfl (opv_move rfl) rfl ?_
          refine RD.opgv (v' := .d (.list (encs _))) rfl (opv_callF (rlow_fn M l hM ts lv (by omega)) rfl rfl rfl trivial) rfl ?_
          refine RD.opgv (v' := .d (.bool _)) rfl (opv_callF (lists_fn (low l lv ts) (low l lv ts) (by omega) (by omega)) rfl rfl rfl trivial) rfl ?_
          refine RD.opv (v' := .d (.bool _)) (opv_pick rfl rfl) rfl ?_
          refine RD.opv (v' := .d (.bool _)) (opv_assign rfl) rfl ?_
          refine RD.nil ?_
          refine thenQ_normal ?_
          refine Runs.ret ?_
          refine EndQ.tmp (.inr rfl) rfl rfl 0 (by exact Nat.le_refl _) (by exact Nat.zero_le _) trivial ⟨?_, rfl⟩
          refine bool_eq ?_; first | rfl | exact (sames_iff _ _).2 rfl
        · try simp only [decide_eq_true_eq, decide_eq_false_iff_not, beq_iff_eq, beq_eq_false_iff_ne, bne_iff_ne, bne_eq_false_iff_eq, Int.not_lt, Int.not_le, ne_eq, Bool.not_eq_true', Bool.not_eq_false', gt_iff_lt, ge_iff_le] at h9
          rw [(sames_iff _ _).2 rfl] at h9; cases h9
theorem compareSees_fn (o : Int × List (Int × Int)) (ts : List Term) (lv : Int) (g1 : o.2.length ≤ 2 ^ 20) (_g1 : True) (g2 : bulks ts ≤ 2 ^ 20) (_g2 : fitss ts) (g3 : -9223372036854775808 ≤ lv) (g4 : lv ≤ 9223372036854775807) : Fn Try.prog 3 [.d (encOrd o), .d (.list (encs ts)), .d (.int .i64 lv)] [] (.d (.bool true)) [] := by
  rcases hN : newL o.1 (o.2.take 60) with ⟨_ | l, e⟩
  · exact compareSees_no o.1 o.2 ts lv g1 g2 e hN
  · exact compareSees_yes o.1 o.2 ts lv g1 g2 l e hN
end Go.Proofs.Ytljmkgjemmoegaa.AM
