import Derived.Test.YtljmkgjemmoegaaHg
import Derived.Test.YtljmkgjemmoegaaF4
namespace Go.Proofs.Ytljmkgjemmoegaa.AM
open Go
set_option linter.unusedVariables false
set_option linter.unusedSimpArgs false
theorem clevel_fn (l : Lt) (hl : l.Ok) (n : Int) : Fn Try.prog 45 [.d (encL l), .d (.int .i64 n)] [] (.d (.int .i64 (l.lev n))) [] := by
  refine Does.run Try.func45 rfl Try.ntmps45 rfl fun K hK => ?_
  refine Runs.rseq ?_
  refine RO.opv (v' := .d (.int _ _)) (opv_assign rfl) rfl ?_
  refine RO.nil ?_
  refine Runs.seq ?_
  refine Runs.rseq ?_
  refine RO.opv (v' := .d (.int _ _)) (opv_move rfl) rfl ?_
  refine RO.opv (v' := .d (.bool _)) (opv_bin rfl rfl rfl) rfl ?_
  refine RO.opc (opv_move rfl) (fun h1 => ?_) (fun h1 => ?_)
  · try simp only [decide_eq_true_eq, decide_eq_false_iff_not, beq_iff_eq, beq_eq_false_iff_ne, bne_iff_ne, bne_eq_false_iff_eq, Int.not_lt, Int.not_le, ne_eq, Bool.not_eq_true', Bool.not_eq_false', gt_iff_lt, ge_iff_le] at h1
    have hx := h1
    refine RO.off rfl ?_
    refine RO.off rfl ?_
    refine RO.off rfl ?_
    refine RO.off rfl ?_
    refine RO.opv (v' := .d (.bool true)) (opv_pick rfl rfl) rfl ?_
    refine RO.nil ?_
    refine Runs.condT rfl ?_
    refine Runs.has [(0, .d (encL _)), (1, .d (.int _ _)), (4, .d (.int _ _))] ⟨rfl, rfl, rfl, trivial⟩ ?_
    refine Runs.rseq ?_
    refine RO.opv (v' := .d (encL _)) (opv_move rfl) rfl ?_
    refine RO.opv (v' := .d (.int _ _)) (opv_callF (ltop_fn l hl) rfl rfl rfl trivial) rfl ?_
    refine RO.opv (v' := .d (.int _ _)) (opv_assign rfl) rfl ?_
    refine RO.nil ?_
    refine Runs.ret ?_
    refine thenQ_ret ?_
    refine EndQ.tmp (.inr rfl) rfl rfl 0 (by exact Nat.le_refl _) (by exact Nat.zero_le _) trivial ⟨?_, rfl⟩
    refine int_eq ?_; exact (if_pos (.inl hx)).symm
  · try simp only [decide_eq_true_eq, decide_eq_false_iff_not, beq_iff_eq, beq_eq_false_iff_ne, bne_iff_ne, bne_eq_false_iff_eq, Int.not_lt, Int.not_le, ne_eq, Bool.not_eq_true', Bool.not_eq_false', gt_iff_lt, ge_iff_le] at h1
    have hx := h1
    refine RO.opgv (v' := .d (.int _ _)) rfl (opv_move rfl) rfl ?_
    refine RO.opgv (v' := .d (encL _)) rfl (opv_move rfl) rfl ?_
    refine RO.opgv (v' := .d (.int _ _)) rfl (opv_callF (llen_fn l) rfl rfl rfl trivial) rfl ?_
    refine RO.opgv (v' := .d (.bool _)) rfl (opv_bin rfl rfl rfl) rfl ?_
    refine RO.opc (opv_pick rfl rfl) (fun h2 => ?_) (fun h2 => ?_)
    · try simp only [decide_eq_true_eq, decide_eq_false_iff_not, beq_iff_eq, beq_eq_false_iff_ne, bne_iff_ne, bne_eq_false_iff_eq, Int.not_lt, Int.not_le, ne_eq, Bool.not_eq_true', Bool.not_eq_false', gt_iff_lt, ge_iff_le] at h2
      have hy := h2
      refine RO.nil ?_
      refine Runs.condT rfl ?_
      refine Runs.has [(0, .d (encL _)), (1, .d (.int _ _)), (4, .d (.int _ _))] ⟨rfl, rfl, rfl, trivial⟩ ?_
      refine Runs.rseq ?_
      refine RO.opv (v' := .d (encL _)) (opv_move rfl) rfl ?_
      refine RO.opv (v' := .d (.int _ _)) (opv_callF (ltop_fn l hl) rfl rfl rfl trivial) rfl ?_
      refine RO.opv (v' := .d (.int _ _)) (opv_assign rfl) rfl ?_
      refine RO.nil ?_
      refine Runs.ret ?_
      refine thenQ_ret ?_
      refine EndQ.tmp (.inr rfl) rfl rfl 0 (by exact Nat.le_refl _) (by exact Nat.zero_le _) trivial ⟨?_, rfl⟩
      refine int_eq ?_; exact (if_pos (.inr hy)).symm
    · try simp only [decide_eq_true_eq, decide_eq_false_iff_not, beq_iff_eq, beq_eq_false_iff_ne, bne_iff_ne, bne_eq_false_iff_eq, Int.not_lt, Int.not_le, ne_eq, Bool.not_eq_true', Bool.not_eq_false', gt_iff_lt, ge_iff_le] at h2
      have hy := h2
      refine RO.nil ?_
      refine Runs.condF rfl ?_
      refine Runs.skip ?_
      refine thenQ_normal ?_
      refine Runs.has [(1, .d (.int _ _)), (4, .d (.int _ _))] ⟨rfl, rfl, trivial⟩ ?_
      refine Runs.rseq ?_
      refine RO.opv (v' := .d (.int _ _)) (opv_move rfl) rfl ?_
      refine RO.opv (v' := .d (.int _ _)) (opv_assign rfl) rfl ?_
      refine RO.nil ?_
      refine Runs.ret ?_
      refine EndQ.tmp (.inr rfl) rfl rfl 0 (by exact Nat.le_refl _) (by exact Nat.zero_le _) trivial ⟨?_, rfl⟩
      refine int_eq ?_; unfold Lt.lev; rw [if_neg (by omega)]
theorem lab_fn (t : Term) : Fn Try.prog 50 [.d (enc t)] [] (.d (.bool t.lab)) [] := by
  refine Does.run Try.func50 rfl Try.ntmps50 rfl fun K hK => ?_
  refine Runs.rseq ?_
  refine RO.opn (v' := .ref 0 0) (O' := [_]) (opv_box_term rfl) rfl rfl ?_
  refine RO.opv (v' := .d (.bool false)) (opv_assign rfl) rfl ?_
  refine RO.nil ?_
  refine Runs.has [(1, .ref 0 0), (2, .d (.bool false))] ⟨rfl, rfl, trivial⟩ ?_
  refine Runs.rseq ?_
  refine RO.opv (v' := .ref 0 0) (opv_field_ref rfl rfl) rfl ?_
  refine RO.opv (v' := .d (.int _ _)) (opv_load_ref rfl rfl rfl) rfl ?_
  refine RO.opv (v' := .d (.bool _)) (opv_bin rfl rfl rfl) rfl ?_
  refine RO.opc (opv_move rfl) (fun h1 => ?_) (fun h1 => ?_)
  · skip
    have e1 : decide (t.kind = 3) = (t.kind == 3) := rfl
    rw [h1] at e1
    refine RO.opgv (v' := .ref 0 2) rfl (opv_field_ref rfl rfl) rfl ?_
    refine RO.opgv (v' := .d (.str _)) rfl (opv_load_ref rfl rfl rfl) rfl ?_
    refine RO.opgv (v' := .d (.bool _)) rfl (opv_bin rfl rfl rfl) rfl ?_
    refine RO.opv (v' := .d (.bool _)) (opv_pick rfl rfl) rfl ?_
    refine RO.opc (opv_move rfl) (fun h2 => ?_) (fun h2 => ?_)
    · skip
      have e2 : (t.name.toList == colons.toList) = _ := h2
      refine RO.opgv (v' := .ref 0 3) rfl (opv_field_ref rfl rfl) rfl ?_
      refine RO.opgv (v' := .d (.list (encs _))) rfl (opv_load_ref rfl rfl rfl) rfl ?_
      refine RO.opgv (v' := .d (.int _ _)) rfl (opv_len_terms rfl) rfl ?_
      refine RO.opgv (v' := .d (.bool _)) rfl (opv_bin rfl rfl rfl) rfl ?_
      refine RO.opv (v' := .d (.bool _)) (opv_pick rfl rfl) rfl ?_
      refine RO.opv (v' := .d (.bool _)) (opv_assign rfl) rfl ?_
      refine RO.nil ?_
      refine Runs.ret ?_
      refine EndQ.tmp (.inr rfl) rfl rfl 0 (by exact Nat.le_refl _) (by exact Nat.zero_le _) trivial ⟨?_, rfl⟩
      refine bool_eq ?_
      first
        | (simp only [Term.lab, *, Bool.true_and, Bool.false_and]; done)
        | (simp only [Term.lab, *, Bool.true_and, Bool.false_and]; rw [Bool.eq_iff_iff]; simp; omega)
    · skip
      have e2 : (t.name.toList == colons.toList) = _ := h2
      refine RO.off rfl ?_
      refine RO.off rfl ?_
      refine RO.off rfl ?_
      refine RO.off rfl ?_
      refine RO.opv (v' := .d (.bool false)) (opv_pick rfl rfl) rfl ?_
      refine RO.opv (v' := .d (.bool false)) (opv_assign rfl) rfl ?_
      refine RO.nil ?_
      refine Runs.ret ?_
      refine EndQ.tmp (.inr rfl) rfl rfl 0 (by exact Nat.le_refl _) (by exact Nat.zero_le _) trivial ⟨?_, rfl⟩
      refine bool_eq ?_
      first
        | (simp only [Term.lab, *, Bool.true_and, Bool.false_and]; done)
        | (simp only [Term.lab, *, Bool.true_and, Bool.false_and]; rw [Bool.eq_iff_iff]; simp; omega)
  · skip
    have e1 : decide (t.kind = 3) = (t.kind == 3) := rfl
    rw [h1] at e1
    refine RO.off rfl ?_
    refine RO.off rfl ?_
    refine RO.off rfl ?_
    refine RO.opv (v' := .d (.bool false)) (opv_pick rfl rfl) rfl ?_
    refine RO.opv (v' := .d (.bool false)) (opv_move rfl) rfl ?_
    refine RO.off rfl ?_
    refine RO.off rfl ?_
    refine RO.off rfl ?_
    refine RO.off rfl ?_
    refine RO.opv (v' := .d (.bool false)) (opv_pick rfl rfl) rfl ?_
    refine RO.opv (v' := .d (.bool false)) (opv_assign rfl) rfl ?_
    refine RO.nil ?_
    refine Runs.ret ?_
    refine EndQ.tmp (.inr rfl) rfl rfl 0 (by exact Nat.le_refl _) (by exact Nat.zero_le _) trivial ⟨?_, rfl⟩
    refine bool_eq ?_
    first
      | (simp only [Term.lab, *, Bool.true_and, Bool.false_and]; done)
      | (simp only [Term.lab, *, Bool.true_and, Bool.false_and]; rw [Bool.eq_iff_iff]; simp; omega)
theorem rlab_fn (t : Term) : Fn Try.prog 28 [.d (enc t)] [] (.d (.bool t.lab)) [] := by
  refine Does.run Try.func28 rfl Try.ntmps28 rfl fun K hK => ?_
  refine Runs.rseq ?_
  refine RO.opn (v' := .ref 0 0) (O' := [_]) (opv_box_term rfl) rfl rfl ?_
  refine RO.opv (v' := .d (.bool false)) (opv_assign rfl) rfl ?_
  refine RO.nil ?_
  refine Runs.has [(1, .ref 0 0), (2, .d (.bool false))] ⟨rfl, rfl, trivial⟩ ?_
  refine Runs.rseq ?_
  refine RO.opv (v' := .ref 0 0) (opv_field_ref rfl rfl) rfl ?_
  refine RO.opv (v' := .d (.int _ _)) (opv_load_ref rfl rfl rfl) rfl ?_
  refine RO.opv (v' := .d (.bool _)) (opv_bin rfl rfl rfl) rfl ?_
  refine RO.opc (opv_move rfl) (fun h1 => ?_) (fun h1 => ?_)
  · skip
    have e1 : decide (t.kind = 3) = (t.kind == 3) := rfl
    rw [h1] at e1
    refine RO.opgv (v' := .ref 0 2) rfl (opv_field_ref rfl rfl) rfl ?_
    refine RO.opgv (v' := .d (.str _)) rfl (opv_load_ref rfl rfl rfl) rfl ?_
    refine RO.opgv (v' := .d (.bool _)) rfl (opv_bin rfl rfl rfl) rfl ?_
    refine RO.opv (v' := .d (.bool _)) (opv_pick rfl rfl) rfl ?_
    refine RO.opc (opv_move rfl) (fun h2 => ?_) (fun h2 => ?_)
    · skip
      have e2 : (t.name.toList == colons.toList) = _ := h2
      refine RO.opgv (v' := .ref 0 3) rfl (opv_field_ref rfl rfl) rfl ?_
      refine RO.opgv (v' := .d (.list (encs _))) rfl (opv_load_ref rfl rfl rfl) rfl ?_
      refine RO.opgv (v' := .d (.int _ _)) rfl (opv_len_terms rfl) rfl ?_
      refine RO.opgv (v' := .d (.bool _)) rfl (opv_bin rfl rfl rfl) rfl ?_
      refine RO.opv (v' := .d (.bool _)) (opv_pick rfl rfl) rfl ?_
      refine RO.opv (v' := .d (.bool _)) (opv_assign rfl) rfl ?_
      refine RO.nil ?_
      refine Runs.ret ?_
      refine EndQ.tmp (.inr rfl) rfl rfl 0 (by exact Nat.le_refl _) (by exact Nat.zero_le _) trivial ⟨?_, rfl⟩
      refine bool_eq ?_
      first
        | (simp only [Term.lab, *, Bool.true_and, Bool.false_and]; done)
        | (simp only [Term.lab, *, Bool.true_and, Bool.false_and]; rw [Bool.eq_iff_iff]; simp; omega)
    · skip
      have e2 : (t.name.toList == colons.toList) = _ := h2
      refine RO.off rfl ?_
      refine RO.off rfl ?_
      refine RO.off rfl ?_
      refine RO.off rfl ?_
      refine RO.opv (v' := .d (.bool false)) (opv_pick rfl rfl) rfl ?_
      refine RO.opv (v' := .d (.bool false)) (opv_assign rfl) rfl ?_
      refine RO.nil ?_
      refine Runs.ret ?_
      refine EndQ.tmp (.inr rfl) rfl rfl 0 (by exact Nat.le_refl _) (by exact Nat.zero_le _) trivial ⟨?_, rfl⟩
      refine bool_eq ?_
      first
        | (simp only [Term.lab, *, Bool.true_and, Bool.false_and]; done)
        | (simp only [Term.lab, *, Bool.true_and, Bool.false_and]; rw [Bool.eq_iff_iff]; simp; omega)
  · skip
    have e1 : decide (t.kind = 3) = (t.kind == 3) := rfl
    rw [h1] at e1
    refine RO.off rfl ?_
    refine RO.off rfl ?_
    refine RO.off rfl ?_
    refine RO.opv (v' := .d (.bool false)) (opv_pick rfl rfl) rfl ?_
    refine RO.opv (v' := .d (.bool false)) (opv_move rfl) rfl ?_
    refine RO.off rfl ?_
    refine RO.off rfl ?_
    refine RO.off rfl ?_
    refine RO.off rfl ?_
    refine RO.opv (v' := .d (.bool false)) (opv_pick rfl rfl) rfl ?_
    refine RO.opv (v' := .d (.bool false)) (opv_assign rfl) rfl ?_
    refine RO.nil ?_
    refine Runs.ret ?_
    refine EndQ.tmp (.inr rfl) rfl rfl 0 (by exact Nat.le_refl _) (by exact Nat.zero_le _) trivial ⟨?_, rfl⟩
    refine bool_eq ?_
    first
      | (simp only [Term.lab, *, Bool.true_and, Bool.false_and]; done)
      | (simp only [Term.lab, *, Bool.true_and, Bool.false_and]; rw [Bool.eq_iff_iff]; simp; omega)
theorem plain_fn (ts : List Term) (hb : bulks ts ≤ 2 ^ 30) : Fn Try.prog 18 [.d (.list (encs ts))] [] (.d (.list (encs (plain ts)))) [] := by
  have hL := bulks_len ts
  refine Does.run Try.func18 rfl Try.ntmps18 rfl fun K hK => ?_
  refine Runs.rseq ?_
  refine RO.opv (v' := .nil0) (opv_assign rfl) rfl ?_
  refine RO.nil ?_
  refine Runs.rseq ?_
  refine RO.opv (v' := .nil0) (opv_assign rfl) rfl ?_
  refine RO.nil ?_
  refine Runs.seq ?_
  refine Runs.adopt 3 39 4 rfl ?_
  refine Runs.rseq ?_
  refine RO.opv (v' := .d (.list (encs _))) (opv_move rfl) rfl ?_
  refine RO.opv (v' := .d (.int _ _)) (opv_len_terms rfl) rfl ?_
  refine RO.opv (v' := .d (.int _ _)) (opv_move rfl) rfl ?_
  refine RO.nil ?_
  refine Runs.block ?_
  refine Runs.loopC (X := Nat) (fun i => i ≤ ts.length) (fun i => ts.length - i) [(2, .nil0), (6, .d (.list (encs _))), (7, .d (.int _ _))] (fun i => [(3, .own 0 (1 + i)), (8, .d (.int .i64 (i : Nat)))]) [] (fun i => [.buf 39 4 (encs (plain (ts.take i))) (1 + i)]) (0) ⟨rfl, rfl, rfl, trivial⟩ ⟨rfl, rfl, trivial⟩ rfl (by omega) fun i hi => ?_
  refine Runs.rseq ?_
  refine RO.opc (opv_bin rfl rfl rfl) (fun h1 => ?_) (fun h1 => ?_)
  · try simp only [decide_eq_true_eq, decide_eq_false_iff_not, beq_iff_eq, beq_eq_false_iff_ne, bne_iff_ne, bne_eq_false_iff_eq, Int.not_lt, Int.not_le, ne_eq, Bool.not_eq_true', Bool.not_eq_false', gt_iff_lt, ge_iff_le] at h1
    have hk : i < ts.length := by omega
    have hbi := bulks_mem (List.getElem_mem hk)
    have hUi := ts[i].bulk_kids
    refine RO.nil ?_
    refine Runs.seq ?_
    refine Runs.condT rfl ?_
    refine Runs.skip ?_
    refine thenQ_normal ?_
    refine Runs.has [(2, .nil0), (3, .own 0 _), (6, .d (.list (encs _))), (7, .d (.int _ _)), (8, .d (.int _ _))] ⟨rfl, rfl, rfl, rfl, rfl, trivial⟩ ?_
    refine Runs.seq ?_
    refine Runs.block ?_
    refine Runs.rseq ?_
    refine RO.opv (v' := .d (.ptr _)) (opv_index_terms rfl rfl (by omega)) rfl ?_
    refine RO.opv (v' := .d (enc _)) (opv_load_pterm rfl) rfl ?_
    refine RO.opn (v' := .ref 1 0) (O' := [_, _]) (opv_alloc) rfl rfl ?_
    refine RO.op0n (O' := [_, _]) (opv_store_term rfl rfl rfl (Nat.le_of_ble_eq_true rfl)) rfl ?_
    refine RO.nil ?_
    refine Runs.has [(2, .nil0), (3, .own 0 _), (5, .ref 1 0), (6, .d (.list (encs _))), (7, .d (.int _ _)), (8, .d (.int _ _))] ⟨rfl, rfl, rfl, rfl, rfl, rfl, trivial⟩ ?_
    refine Runs.seq ?_
    refine Runs.rseq ?_
    refine RO.opv (v' := .d (enc _)) (opv_load_term rfl rfl rfl) rfl ?_
    refine RO.opc (opv_callF (lab_fn ts[i]) rfl rfl rfl trivial) (fun h2 => ?_) (fun h2 => ?_)
    · try simp only [decide_eq_true_eq, decide_eq_false_iff_not, beq_iff_eq, beq_eq_false_iff_ne, bne_iff_ne, bne_eq_false_iff_eq, Int.not_lt, Int.not_le, ne_eq, Bool.not_eq_true', Bool.not_eq_false', gt_iff_lt, ge_iff_le] at h2
      have hl := h2
      have hk1 : 1 < ts[i].kids.length := by have := (lab_iff.1 h2).2.2; omega
      have hbk := bulks_mem (List.getElem_mem hk1)
      refine RO.nil ?_
      refine Runs.condT rfl ?_
      refine Runs.has [(2, .nil0), (3, .own 0 _), (5, .ref 1 0), (6, .d (.list (encs _))), (7, .d (.int _ _)), (8, .d (.int _ _))] ⟨rfl, rfl, rfl, rfl, rfl, rfl, trivial⟩ ?_
      refine Runs.region ?_
      refine RO.opv (v' := .ref 1 3) (opv_field_ref rfl rfl) rfl ?_
      refine RO.opv (v' := .d (.list (encs _))) (opv_load_ref rfl rfl rfl) rfl ?_
      refine RO.opv (v' := .d (.ptr _)) (opv_index_terms (i := 1) rfl rfl hk1) rfl ?_
      refine RO.opv (v' := .d (enc _)) (opv_load_pterm rfl) rfl ?_
      refine RO.op0n (O' := [_, _]) (opv_store_term rfl rfl rfl (Nat.le_of_ble_eq_true rfl)) rfl ?_
      refine RO.nil ?_
      refine thenQ_normal ?_
      refine Runs.has [(2, .nil0), (3, .own 0 _), (5, .ref 1 0), (6, .d (.list (encs _))), (7, .d (.int _ _)), (8, .d (.int _ _))] ⟨rfl, rfl, rfl, rfl, rfl, rfl, trivial⟩ ?_
      refine Runs.region ?_
      refine RO.opv (v' := .own 0 _) (opv_move rfl) rfl ?_
      refine RO.opv (v' := .d (enc _)) (opv_load_term rfl rfl rfl) rfl ?_
      refine RO.opv (v' := .d (enc _)) (opv_callF (erase_fn ts[i].kids[1] (by omega)) rfl rfl rfl trivial) rfl ?_
      refine RO.opv (v' := .d (.list (encs _))) (opv_bs_term1 rfl ) rfl ?_
      refine RO.opn (v' := .own 0 _) (O' := [_, _]) (opv_append_terms rfl rfl rfl (by rw [plain_len]; simp; omega)) rfl rfl ?_
      refine RO.opv (v' := .own 0 _) (opv_assign rfl) rfl ?_
      refine RO.nil ?_
      refine blockQ_normal ?_
      refine thenQ_normal ?_
      refine Runs.has [(2, .nil0), (3, .own 0 _), (6, .d (.list (encs _))), (7, .d (.int _ _)), (8, .d (.int _ _))] ⟨rfl, rfl, rfl, rfl, rfl, trivial⟩ ?_
      refine Runs.region ?_
      refine RO.opv (v' := .d (.int _ _)) (opv_bin rfl rfl rfl) rfl ?_
      refine RO.opv (v' := .d (.int _ _)) (opv_move rfl) rfl ?_
      refine RO.nil ?_
      refine thenQ_normal ?_
      refine ⟨i+1, 1, (by rw [hK]; exact Nat.le_of_ble_eq_true rfl), ⟨rfl, rfl, rfl, trivial⟩, ⟨?_, ?_, trivial⟩, ?_, ?_, ?_⟩
      · rfl
      · refine int_eq ?_; rw [wrap64 (by omega) (by omega)]; omega
      · rw [plain_take hk]; first | (rw [plain1_lab hl hk1]; rfl) | (rw [plain1_no hl]; rfl)
      · omega
      · omega
    · try simp only [decide_eq_true_eq, decide_eq_false_iff_not, beq_iff_eq, beq_eq_false_iff_ne, bne_iff_ne, bne_eq_false_iff_eq, Int.not_lt, Int.not_le, ne_eq, Bool.not_eq_true', Bool.not_eq_false', gt_iff_lt, ge_iff_le] at h2
      have hl := h2
      refine RO.nil ?_
      refine Runs.condF rfl ?_
      refine Runs.skip ?_
      refine thenQ_normal ?_
      refine Runs.has [(2, .nil0), (3, .own 0 _), (5, .ref 1 0), (6, .d (.list (encs _))), (7, .d (.int _ _)), (8, .d (.int _ _))] ⟨rfl, rfl, rfl, rfl, rfl, rfl, trivial⟩ ?_
      refine Runs.region ?_
      refine RO.opv (v' := .own 0 _) (opv_move rfl) rfl ?_
      refine RO.opv (v' := .d (enc _)) (opv_load_term rfl rfl rfl) rfl ?_
      refine RO.opv (v' := .d (enc _)) (opv_callF (erase_fn ts[i] (by omega)) rfl rfl rfl trivial) rfl ?_
      refine RO.opv (v' := .d (.list (encs _))) (opv_bs_term1 rfl ) rfl ?_
      refine RO.opn (v' := .own 0 _) (O' := [_, _]) (opv_append_terms rfl rfl rfl (by rw [plain_len]; simp; omega)) rfl rfl ?_
      refine RO.opv (v' := .own 0 _) (opv_assign rfl) rfl ?_
      refine RO.nil ?_
      refine blockQ_normal ?_
      refine thenQ_normal ?_
      refine Runs.has [(2, .nil0), (3, .own 0 _), (6, .d (.list (encs _))), (7, .d (.int _ _)), (8, .d (.int _ _))] ⟨rfl, rfl, rfl, rfl, rfl, trivial⟩ ?_
      refine Runs.region ?_
      refine RO.opv (v' := .d (.int _ _)) (opv_bin rfl rfl rfl) rfl ?_
      refine RO.opv (v' := .d (.int _ _)) (opv_move rfl) rfl ?_
      refine RO.nil ?_
      refine thenQ_normal ?_
      refine ⟨i+1, 1, (by rw [hK]; exact Nat.le_of_ble_eq_true rfl), ⟨rfl, rfl, rfl, trivial⟩, ⟨?_, ?_, trivial⟩, ?_, ?_, ?_⟩
      · rfl
      · refine int_eq ?_; rw [wrap64 (by omega) (by omega)]; omega
      · rw [plain_take hk]; first | (rw [plain1_lab hl hk1]; rfl) | (rw [plain1_no hl]; rfl)
      · omega
      · omega
  · try simp only [decide_eq_true_eq, decide_eq_false_iff_not, beq_iff_eq, beq_eq_false_iff_ne, bne_iff_ne, bne_eq_false_iff_eq, Int.not_lt, Int.not_le, ne_eq, Bool.not_eq_true', Bool.not_eq_false', gt_iff_lt, ge_iff_le] at h1
    have hk : i = ts.length := by omega
    refine RO.nil ?_
    refine Runs.seq ?_
    refine Runs.condF rfl ?_
    refine Runs.exit ?_
    refine thenQ_exit ?_
    refine thenQ_exit ?_
    refine blockQ_here ?_
    refine thenQ_normal ?_
    refine Runs.has [(2, .nil0), (3, .own 0 _)] ⟨rfl, rfl, trivial⟩ ?_
    refine Runs.shut 3 rfl rfl ?_
    refine Runs.rseq ?_
    refine RO.opv (v' := .d (.list (encs _))) (opv_move rfl) rfl ?_
    refine RO.opv (v' := .d (.list (encs _))) (opv_assign rfl) rfl ?_
    refine RO.nil ?_
    refine Runs.ret ?_
    refine EndQ.tmp (.inr rfl) rfl rfl 0 (by exact Nat.le_refl _) (by exact Nat.zero_le _) trivial ⟨?_, rfl⟩
    refine terms_eq ?_; rw [hk, List.take_length]
theorem see_aux (l : Lt) (hl : l.Ok) (lv : Int) : ∀ (m : Nat) (t : Term), t.size ≤ m → t.bulk ≤ 2 ^ 30 → Fn Try.prog 44 [.d (enc t), .d (.ptr [encL l]), .d (.ptr [.int .i64 lv]), .ref 0 0] [.cells [.fn 44 [.d (.ptr [encL l]), .d (.ptr [.int .i64 lv]), .ref 0 0]]] (.d (enc (t.see l lv))) [.cells [.fn 44 [.d (.ptr [encL l]), .d (.ptr [.int .i64 lv]), .ref 0 0]]] := by
  intro m
  induction m with
  | zero => intro t h; have := t.size_kids; omega
  | succ m ih =>
  intro t hm hb
  have hS := t.size_kids
  have hU := t.bulk_kids
  have hL := bulks_len t.kids
  refine Does.run Try.func44 rfl Try.ntmps44 rfl fun K hK => ?_
  refine Runs.rseq ?_
  refine RO.opn (v' := .ref 1 0) (O' := [_, _]) (opv_box_term rfl) rfl rfl ?_
  refine RO.opn (v' := .ref 2 0) (O' := [_, _, _]) (opv_alloc) rfl rfl ?_
  refine RO.nil ?_
  refine Runs.has [(1, .d (.ptr _)), (2, .d (.ptr _)), (3, .ref 0 0), (4, .ref 1 0), (5, .ref 2 0)] ⟨rfl, rfl, rfl, rfl, rfl, trivial⟩ ?_
  refine Runs.seq ?_
  refine Runs.seq ?_
  refine Runs.drawn (by kernel_rfl) [] [false, false, false, false, false, false, false, false, false, false, false, false, false] [false, false, false, false, false, false, false, false, false, false, false, false, false] (by decide +kernel) ?_
  refine RD.opv (v' := .ref 1 0) (opv_field_ref rfl rfl) rfl ?_
  refine RD.opv (v' := .d (.int _ _)) (opv_load_ref rfl rfl rfl) rfl ?_
  refine RD.opv (v' := .d (.bool _)) (opv_bin rfl rfl rfl) rfl ?_
  refine RD.opc (opv_move rfl) (fun h1 => ?_) (fun h1 => ?_)
  · try simp only [decide_eq_true_eq, decide_eq_false_iff_not, beq_iff_eq, beq_eq_false_iff_ne, bne_iff_ne, bne_eq_false_iff_eq, Int.not_lt, Int.not_le, ne_eq, Bool.not_eq_true', Bool.not_eq_false', gt_iff_lt, ge_iff_le] at h1
    have h4 : t.kind = 4 := h1
    refine RD.opgv (v' := .d (encL _)) rfl (opv_load_ptr rfl rfl) rfl ?_
    refine RD.opgv (v' := .d (encL _)) rfl (opv_load_ptr rfl rfl) rfl ?_
    refine RD.opgv (v' := .ref 1 1) rfl (opv_field_ref rfl rfl) rfl ?_
    refine RD.opgv (v' := .d (.int _ _)) rfl (opv_load_ref rfl rfl rfl) rfl ?_
    refine RD.opgv (v' := .d (.int _ _)) rfl (opv_callF (clevel_fn l hl t.num) rfl rfl rfl trivial) rfl ?_
    refine RD.opgv (v' := .d (.int _ _)) rfl (opv_load_ptr rfl rfl) rfl ?_
    refine RD.opgv (v' := .d (.bool _)) rfl (opv_callF (leq_fn l hl _ _) rfl rfl rfl trivial) rfl ?_
    refine RD.opgv (v' := .d (.bool _)) rfl (opv_not rfl rfl) rfl ?_
    refine RD.opc (opv_pick rfl rfl) (fun h2 => ?_) (fun h2 => ?_)
    · try simp only [decide_eq_true_eq, decide_eq_false_iff_not, beq_iff_eq, beq_eq_false_iff_ne, bne_iff_ne, bne_eq_false_iff_eq, Int.not_lt, Int.not_le, ne_eq, Bool.not_eq_true', Bool.not_eq_false', gt_iff_lt, ge_iff_le] at h2
      have hq := h2
      refine RD.nil ?_
      refine thenQ_normal ?_
      refine Runs.condT rfl ?_
      refine Runs.has [(1, .d (.ptr _)), (3, .ref 0 0), (4, .ref 1 0), (5, .ref 2 0)] ⟨rfl, rfl, rfl, rfl, trivial⟩ ?_
      refine Runs.seq ?_
      refine Runs.drawn (by kernel_rfl) [] [false, false, false, false, false] [false, false, false, false, true] (by decide +kernel) ?_
      refine RD.opv (v' := .d (enc _)) (opv_callF (atom_fn hole) rfl rfl rfl trivial) rfl ?_
      refine RD.opv (v' := .d (encL _)) (opv_load_ptr rfl rfl) rfl ?_
      refine RD.opv (v' := .d (.int _ _)) (opv_callF (ltop_fn l hl) rfl rfl rfl trivial) rfl ?_
      refine RD.opv (v' := .d (enc _)) (opv_callF (putS_fn _ _) rfl rfl rfl trivial) rfl ?_
      refine RD.op0n (O' := [_, _, _]) (opv_store_term rfl rfl rfl (Nat.le_of_ble_eq_true rfl)) rfl trivial ?_
      refine RD.nil ?_
      refine thenQ_normal ?_
      refine Runs.ret ?_
      refine thenQ_ret ?_
      refine EndQ.cell_term (.inr rfl) rfl rfl rfl rfl 1 (by exact Nat.le_refl _) (by simp) ⟨?_, rfl⟩
      refine term_eq ?_; rw [see_eq, if_pos ⟨h4, hq⟩]
    · try simp only [decide_eq_true_eq, decide_eq_false_iff_not, beq_iff_eq, beq_eq_false_iff_ne, bne_iff_ne, bne_eq_false_iff_eq, Int.not_lt, Int.not_le, ne_eq, Bool.not_eq_true', Bool.not_eq_false', gt_iff_lt, ge_iff_le] at h2
      have hq := h2
      refine RD.nil ?_
      refine thenQ_normal ?_
      refine Runs.condF rfl ?_
      refine Runs.skip ?_
      refine thenQ_normal ?_
      refine Runs.has [(3, .ref 0 0), (4, .ref 1 0), (5, .ref 2 0)] ⟨rfl, rfl, rfl, trivial⟩ ?_
      refine Runs.rseq ?_
      refine RO.opv (v' := .nil0) (opv_assign rfl) rfl ?_
      refine RO.nil ?_
      refine Runs.seq ?_
      refine Runs.adopt 6 39 4 rfl ?_
      refine Runs.rseq ?_
      refine RO.opv (v' := .ref 1 3) (opv_field_ref rfl rfl) rfl ?_
      refine RO.opv (v' := .d (.list (encs _))) (opv_load_ref rfl rfl rfl) rfl ?_
      refine RO.opv (v' := .d (.int _ _)) (opv_len_terms rfl) rfl ?_
      refine RO.opv (v' := .d (.int _ _)) (opv_move rfl) rfl ?_
      refine RO.nil ?_
      refine Runs.block ?_
      refine Runs.loopC (X := Nat) (fun i => i ≤ t.kids.length) (fun i => t.kids.length - i) [(3, .ref 0 0), (4, .ref 1 0), (5, .ref 2 0), (27, .d (.list (encs _))), (28, .d (.int _ _))] (fun i => [(6, .own 3 (1 + i)), (29, .d (.int .i64 (i : Nat)))]) [_, _, _] (fun i => [.buf 39 4 (encs (sees l lv (t.kids.take i))) (1 + i)]) (0) ⟨rfl, rfl, rfl, rfl, rfl, trivial⟩ ⟨rfl, rfl, trivial⟩ rfl (by omega) fun i hi => ?_
      refine Runs.rseq ?_
      refine RO.opc (opv_bin rfl rfl rfl) (fun h3 => ?_) (fun h3 => ?_)
      · try simp only [decide_eq_true_eq, decide_eq_false_iff_not, beq_iff_eq, beq_eq_false_iff_ne, bne_iff_ne, bne_eq_false_iff_eq, Int.not_lt, Int.not_le, ne_eq, Bool.not_eq_true', Bool.not_eq_false', gt_iff_lt, ge_iff_le] at h3
        have hk : i < t.kids.length := by omega
        refine RO.nil ?_
        refine Runs.seq ?_
        refine Runs.condT rfl ?_
        refine Runs.skip ?_
        refine thenQ_normal ?_
        refine Runs.has [(3, .ref 0 0), (4, .ref 1 0), (5, .ref 2 0), (6, .own 3 _), (27, .d (.list (encs _))), (28, .d (.int _ _)), (29, .d (.int _ _))] ⟨rfl, rfl, rfl, rfl, rfl, rfl, rfl, trivial⟩ ?_
        refine Runs.seq ?_
        refine Runs.block ?_
        refine Runs.rseq ?_
        refine RO.opv (v' := .d (.ptr _)) (opv_index_terms rfl rfl (by omega)) rfl ?_
        refine RO.opv (v' := .d (enc _)) (opv_load_pterm rfl) rfl ?_
        refine RO.opn (v' := .ref 4 0) (O' := [_, _, _, _, _]) (opv_alloc) rfl rfl ?_
        refine RO.op0n (O' := [_, _, _, _, _]) (opv_store_term rfl rfl rfl (Nat.le_of_ble_eq_true rfl)) rfl ?_
        refine RO.nil ?_
        refine Runs.has [(3, .ref 0 0), (4, .ref 1 0), (5, .ref 2 0), (6, .own 3 _), (8, .ref 4 0), (27, .d (.list (encs _))), (28, .d (.int _ _)), (29, .d (.int _ _))] ⟨rfl, rfl, rfl, rfl, rfl, rfl, rfl, rfl, trivial⟩ ?_
        refine Runs.region ?_
        refine RO.opv (v' := .own 3 _) (opv_move rfl) rfl ?_
        refine RO.opv (v' := .fn 44 _) (opv_load_ref rfl rfl rfl) rfl ?_
        refine RO.opv (v' := .d (enc _)) (opv_load_term rfl rfl rfl) rfl ?_
        refine RO.opn (v' := .d (enc _)) (O' := [_, _, _, _, _]) (opv_callP 1 (ys := [.d (enc _)]) (caps := [.d (.ptr [encL l]), .d (.ptr [.int .i64 lv]), .ref 0 0]) (ih t.kids[i] (by have := sizes_mem (List.getElem_mem (l := t.kids) (n := i) hk); omega) (by have := bulks_mem (List.getElem_mem (l := t.kids) (n := i) hk); omega)) rfl rfl (Nat.le_of_ble_eq_true rfl) rfl (AV.bds_of_B _ rfl)) rfl rfl ?_
        refine RO.opv (v' := .d (.list (encs _))) (opv_bs_term1 rfl ) rfl ?_
        refine RO.opn (v' := .own 3 _) (O' := [_, _, _, _, _]) (opv_append_terms rfl rfl rfl (by rw [sees_len]; simp; omega)) rfl rfl ?_
        refine RO.opv (v' := .own 3 _) (opv_assign rfl) rfl ?_
        refine RO.nil ?_
        refine blockQ_normal ?_
        refine thenQ_normal ?_
        refine Runs.has [(3, .ref 0 0), (4, .ref 1 0), (5, .ref 2 0), (6, .own 3 _), (27, .d (.list (encs _))), (28, .d (.int _ _)), (29, .d (.int _ _))] ⟨rfl, rfl, rfl, rfl, rfl, rfl, rfl, trivial⟩ ?_
        refine Runs.region ?_
        refine RO.opv (v' := .d (.int _ _)) (opv_bin rfl rfl rfl) rfl ?_
        refine RO.opv (v' := .d (.int _ _)) (opv_move rfl) rfl ?_
        refine RO.nil ?_
        refine thenQ_normal ?_
        refine ⟨i+1, 4, (by rw [hK]; exact Nat.le_of_ble_eq_true rfl), ⟨rfl, rfl, rfl, rfl, rfl, trivial⟩, ⟨?_, ?_, trivial⟩, ?_, ?_, ?_⟩
        · rfl
        · refine int_eq ?_; rw [wrap64 (by omega) (by omega)]; omega
        · rw [sees_take hk]; rfl
        · omega
        · omega
      · try simp only [decide_eq_true_eq, decide_eq_false_iff_not, beq_iff_eq, beq_eq_false_iff_ne, bne_iff_ne, bne_eq_false_iff_eq, Int.not_lt, Int.not_le, ne_eq, Bool.not_eq_true', Bool.not_eq_false', gt_iff_lt, ge_iff_le] at h3
        have hk : i = t.kids.length := by omega
        refine RO.nil ?_
        refine Runs.seq ?_
        refine Runs.condF rfl ?_
        refine Runs.exit ?_
        refine thenQ_exit ?_
        refine thenQ_exit ?_
        refine blockQ_here ?_
        refine thenQ_normal ?_
        refine Runs.has [(4, .ref 1 0), (5, .ref 2 0), (6, .own 3 _)] ⟨rfl, rfl, rfl, trivial⟩ ?_
        refine Runs.shut 6 rfl rfl ?_
        refine Runs.rseq ?_
        refine RO.opv (v' := .d (.list (encs _))) (opv_move rfl) rfl ?_
        refine RO.opv (v' := .ref 1 3) (opv_field_ref rfl rfl) rfl ?_
        refine RO.op0n (O' := [_, _, _, _]) (opv_store_ref rfl rfl rfl rfl rfl (Nat.le_of_ble_eq_true rfl) rfl) rfl ?_
        refine RO.nil ?_
        refine Runs.has [(4, .ref 1 0), (5, .ref 2 0)] ⟨rfl, rfl, trivial⟩ ?_
        refine Runs.rseq ?_
        refine RO.opv (v' := .d (enc _)) (opv_load_node rfl rfl rfl rfl) rfl ?_
        refine RO.op0n (O' := [_, _, _, _]) (opv_store_term rfl rfl rfl (Nat.le_of_ble_eq_true rfl)) rfl ?_
        refine RO.nil ?_
        refine Runs.ret ?_
        refine EndQ.cell_term (.inr rfl) rfl rfl rfl rfl 1 (by exact Nat.le_refl _) (by simp) ⟨?_, rfl⟩
        refine term_eq ?_; rw [see_eq, if_neg (by simp [*]), hk, List.take_length]
  · try simp only [decide_eq_true_eq, decide_eq_false_iff_not, beq_iff_eq, beq_eq_false_iff_ne, bne_iff_ne, bne_eq_false_iff_eq, Int.not_lt, Int.not_le, ne_eq, Bool.not_eq_true', Bool.not_eq_false', gt_iff_lt, ge_iff_le] at h1
    have h4 : ¬ t.kind = 4 := h1
    refine RD.off rfl ?_
    refine RD.off rfl ?_
    refine RD.off rfl ?_
    refine RD.off rfl ?_
    refine RD.off rfl ?_
    refine RD.off rfl ?_
    refine RD.off rfl ?_
    refine RD.off rfl ?_
    refine RD.opv (v' := .d (.bool false)) (opv_pick rfl rfl) rfl ?_
    refine RD.nil ?_
    refine thenQ_normal ?_
    refine Runs.condF rfl ?_
    refine Runs.skip ?_
    refine thenQ_normal ?_
    refine Runs.has [(3, .ref 0 0), (4, .ref 1 0), (5, .ref 2 0)] ⟨rfl, rfl, rfl, trivial⟩ ?_
    refine Runs.rseq ?_
    refine RO.opv (v' := .nil0) (opv_assign rfl) rfl ?_
    refine RO.nil ?_
    refine Runs.seq ?_
    refine Runs.adopt 6 39 4 rfl ?_
    refine Runs.rseq ?_
    refine RO.opv (v' := .ref 1 3) (opv_field_ref rfl rfl) rfl ?_
    refine RO.opv (v' := .d (.list (encs _))) (opv_load_ref rfl rfl rfl) rfl ?_
    refine RO.opv (v' := .d (.int _ _)) (opv_len_terms rfl) rfl ?_
    refine RO.opv (v' := .d (.int _ _)) (opv_move rfl) rfl ?_
    refine RO.nil ?_
    refine Runs.block ?_
    refine Runs.loopC (X := Nat) (fun i => i ≤ t.kids.length) (fun i => t.kids.length - i) [(3, .ref 0 0), (4, .ref 1 0), (5, .ref 2 0), (27, .d (.list (encs _))), (28, .d (.int _ _))] (fun i => [(6, .own 3 (1 + i)), (29, .d (.int .i64 (i : Nat)))]) [_, _, _] (fun i => [.buf 39 4 (encs (sees l lv (t.kids.take i))) (1 + i)]) (0) ⟨rfl, rfl, rfl, rfl, rfl, trivial⟩ ⟨rfl, rfl, trivial⟩ rfl (by omega) fun i hi => ?_
    refine Runs.rseq ?_
    refine RO.opc (opv_bin rfl rfl rfl) (fun h4 => ?_) (fun h4 => ?_)
    · try simp only [decide_eq_true_eq, decide_eq_false_iff_not, beq_iff_eq, beq_eq_false_iff_ne, bne_iff_ne, bne_eq_false_iff_eq, Int.not_lt, Int.not_le, ne_eq, Bool.not_eq_true', Bool.not_eq_false', gt_iff_lt, ge_iff_le] at h4
      have hk : i < t.kids.length := by omega
      refine RO.nil ?_
      refine Runs.seq ?_
      refine Runs.condT rfl ?_
      refine Runs.skip ?_
      refine thenQ_normal ?_
      refine Runs.has [(3, .ref 0 0), (4, .ref 1 0), (5, .ref 2 0), (6, .own 3 _), (27, .d (.list (encs _))), (28, .d (.int _ _)), (29, .d (.int _ _))] ⟨rfl, rfl, rfl, rfl, rfl, rfl, rfl, trivial⟩ ?_
      refine Runs.seq ?_
      refine Runs.block ?_
      refine Runs.rseq ?_
      refine RO.opv (v' := .d (.ptr _)) (opv_index_terms rfl rfl (by omega)) rfl ?_
      refine RO.opv (v' := .d (enc _)) (opv_load_pterm rfl) rfl ?_
      refine RO.opn (v' := .ref 4 0) (O' := [_, _, _, _, _]) (opv_alloc) rfl rfl ?_
      refine RO.op0n (O' := [_, _, _, _, _]) (opv_store_term rfl rfl rfl (Nat.le_of_ble_eq_true rfl)) rfl ?_
      refine RO.nil ?_
      refine Runs.has [(3, .ref 0 0), (4, .ref 1 0), (5, .ref 2 0), (6, .own 3 _), (8, .ref 4 0), (27, .d (.list (encs _))), (28, .d (.int _ _)), (29, .d (.int _ _))] ⟨rfl, rfl, rfl, rfl, rfl, rfl, rfl, rfl, trivial⟩ ?_
      refine Runs.region ?_
      refine RO.opv (v' := .own 3 _) (opv_move rfl) rfl ?_
      refine RO.opv (v' := .fn 44 _) (opv_load_ref rfl rfl rfl) rfl ?_
      refine RO.opv (v' := .d (enc _)) (opv_load_term rfl rfl rfl) rfl ?_
      refine RO.opn (v' := .d (enc _)) (O' := [_, _, _, _, _]) (opv_callP 1 (ys := [.d (enc _)]) (caps := [.d (.ptr [encL l]), .d (.ptr [.int .i64 lv]), .ref 0 0]) (ih t.kids[i] (by have := sizes_mem (List.getElem_mem (l := t.kids) (n := i) hk); omega) (by have := bulks_mem (List.getElem_mem (l := t.kids) (n := i) hk); omega)) rfl rfl (Nat.le_of_ble_eq_true rfl) rfl (AV.bds_of_B _ rfl)) rfl rfl ?_
      refine RO.opv (v' := .d (.list (encs _))) (opv_bs_term1 rfl ) rfl ?_
      refine RO.opn (v' := .own 3 _) (O' := [_, _, _, _, _]) (opv_append_terms rfl rfl rfl (by rw [sees_len]; simp; omega)) rfl rfl ?_
      refine RO.opv (v' := .own 3 _) (opv_assign rfl) rfl ?_
      refine RO.nil ?_
      refine blockQ_normal ?_
      refine thenQ_normal ?_
      refine Runs.has [(3, .ref 0 0), (4, .ref 1 0), (5, .ref 2 0), (6, .own 3 _), (27, .d (.list (encs _))), (28, .d (.int _ _)), (29, .d (.int _ _))] ⟨rfl, rfl, rfl, rfl, rfl, rfl, rfl, trivial⟩ ?_
      refine Runs.region ?_
      refine RO.opv (v' := .d (.int _ _)) (opv_bin rfl rfl rfl) rfl ?_
      refine RO.opv (v' := .d (.int _ _)) (opv_move rfl) rfl ?_
      refine RO.nil ?_
      refine thenQ_normal ?_
      refine ⟨i+1, 4, (by rw [hK]; exact Nat.le_of_ble_eq_true rfl), ⟨rfl, rfl, rfl, rfl, rfl, trivial⟩, ⟨?_, ?_, trivial⟩, ?_, ?_, ?_⟩
      · rfl
      · refine int_eq ?_; rw [wrap64 (by omega) (by omega)]; omega
      · rw [sees_take hk]; rfl
      · omega
      · omega
    · try simp only [decide_eq_true_eq, decide_eq_false_iff_not, beq_iff_eq, beq_eq_false_iff_ne, bne_iff_ne, bne_eq_false_iff_eq, Int.not_lt, Int.not_le, ne_eq, Bool.not_eq_true', Bool.not_eq_false', gt_iff_lt, ge_iff_le] at h4
      have hk : i = t.kids.length := by omega
      refine RO.nil ?_
      refine Runs.seq ?_
      refine Runs.condF rfl ?_
      refine Runs.exit ?_
      refine thenQ_exit ?_
      refine thenQ_exit ?_
      refine blockQ_here ?_
      refine thenQ_normal ?_
      refine Runs.has [(4, .ref 1 0), (5, .ref 2 0), (6, .own 3 _)] ⟨rfl, rfl, rfl, trivial⟩ ?_
      refine Runs.shut 6 rfl rfl ?_
      refine Runs.rseq ?_
      refine RO.opv (v' := .d (.list (encs _))) (opv_move rfl) rfl ?_
      refine RO.opv (v' := .ref 1 3) (opv_field_ref rfl rfl) rfl ?_
      refine RO.op0n (O' := [_, _, _, _]) (opv_store_ref rfl rfl rfl rfl rfl (Nat.le_of_ble_eq_true rfl) rfl) rfl ?_
      refine RO.nil ?_
      refine Runs.has [(4, .ref 1 0), (5, .ref 2 0)] ⟨rfl, rfl, trivial⟩ ?_
      refine Runs.rseq ?_
      refine RO.opv (v' := .d (enc _)) (opv_load_node rfl rfl rfl rfl) rfl ?_
      refine RO.op0n (O' := [_, _, _, _]) (opv_store_term rfl rfl rfl (Nat.le_of_ble_eq_true rfl)) rfl ?_
      refine RO.nil ?_
      refine Runs.ret ?_
      refine EndQ.cell_term (.inr rfl) rfl rfl rfl rfl 1 (by exact Nat.le_refl _) (by simp) ⟨?_, rfl⟩
      refine term_eq ?_; rw [see_eq, if_neg (by simp [*]), hk, List.take_length]
theorem seen_fn (l : Lt) (hl : l.Ok) (t : Term) (lv : Int) (hb : t.bulk ≤ 2 ^ 30) : Fn Try.prog 15 [.d (encL l), .d (enc t), .d (.int .i64 lv)] [] (.d (enc (t.see l lv))) [] := by
  refine Does.run Try.func15 rfl Try.ntmps15 rfl fun K hK => ?_
  refine Runs.rseq ?_
  refine RO.opn (v' := .ref 0 0) (O' := [_]) (opv_box rfl rfl) rfl rfl ?_
  refine RO.opn (v' := .ref 1 0) (O' := [_, _]) (opv_box_term rfl) rfl rfl ?_
  refine RO.opn (v' := .ref 2 0) (O' := [_, _, _]) (opv_box rfl rfl) rfl rfl ?_
  refine RO.opn (v' := .ref 3 0) (O' := [_, _, _, _]) (opv_alloc) rfl rfl ?_
  refine RO.nil ?_
  refine Runs.has [(3, .ref 0 0), (4, .ref 1 0), (5, .ref 2 0), (6, .ref 3 0)] ⟨rfl, rfl, rfl, rfl, trivial⟩ ?_
  refine Runs.rseq ?_
  refine RO.opn (v' := .ref 4 0) (O' := [_, _, _, _, _]) (opv_alloc) rfl rfl ?_
  refine RO.nil ?_
  refine Runs.freeze 3 rfl rfl rfl ?_
  refine Runs.freeze 5 rfl rfl rfl ?_
  refine Runs.rseq ?_
  refine RO.opn (v' := .fn 44 _) (O' := [_, _, _, _, _]) (opv_makeFunc rfl) rfl rfl ?_
  refine RO.op0n (O' := [_, _, _, _, _]) (opv_store_ref rfl rfl rfl rfl rfl (Nat.le_of_ble_eq_true rfl) rfl) rfl ?_
  refine RO.nil ?_
  refine Runs.has [(4, .ref 1 0), (6, .ref 3 0), (7, .ref 4 0)] ⟨rfl, rfl, rfl, trivial⟩ ?_
  refine Runs.rseq ?_
  refine RO.opv (v' := .fn 44 _) (opv_load_ref rfl rfl rfl) rfl ?_
  refine RO.opv (v' := .d (enc _)) (opv_load_term rfl rfl rfl) rfl ?_
  refine RO.opn (v' := .d (enc _)) (O' := [_, _, _, _, _]) (opv_callSC 4 1 (ys := [.d (enc _)]) (caps := [.d (.ptr [encL l]), .d (.ptr [.int .i64 lv]), .ref 0 0]) (see_aux l hl lv t.size t (Nat.le_refl _) hb) rfl rfl rfl (Nat.le_of_ble_eq_true rfl) rfl (AV.bds_of_B _ rfl)) rfl rfl ?_
  refine RO.op0n (O' := [_, _, _, _, _]) (opv_store_term rfl rfl rfl (Nat.le_of_ble_eq_true rfl)) rfl ?_
  refine RO.nil ?_
  refine Runs.ret ?_
  refine EndQ.cell_term (.inr rfl) rfl rfl rfl rfl 0 (by exact Nat.le_refl _) (by exact Nat.zero_le _) ⟨?_, rfl⟩
  rfl
theorem hid_fn (l : Lt) (hl : l.Ok) (t : Term) (lv : Int) : Fn Try.prog 52 [.d (encL l), .d (enc t), .d (.int .i64 lv)] [] (.d (.bool (hid l lv t))) [] := by
  refine Does.run Try.func52 rfl Try.ntmps52 rfl fun K hK => ?_
  refine Runs.rseq ?_
  refine RO.opn (v' := .ref 0 0) (O' := [_]) (opv_box_term rfl) rfl rfl ?_
  refine RO.opv (v' := .d (.bool false)) (opv_assign rfl) rfl ?_
  refine RO.nil ?_
  refine Runs.has [(0, .d (encL _)), (2, .d (.int _ _)), (4, .ref 0 0), (6, .d (.bool false))] ⟨rfl, rfl, rfl, rfl, trivial⟩ ?_
  refine Runs.seq ?_
  refine Runs.rseq ?_
  refine RO.opv (v' := .d (enc _)) (opv_load_term rfl rfl rfl) rfl ?_
  refine RO.opv (v' := .d (.bool _)) (opv_callF (lab_fn t) rfl rfl rfl trivial) rfl ?_
  refine RO.opc (opv_not rfl rfl) (fun h1 => ?_) (fun h1 => ?_)
  · skip
    have hl' : t.lab = false := by simpa using h1
    refine RO.nil ?_
    refine Runs.condT rfl ?_
    refine Runs.has [(0, .d (encL _)), (2, .d (.int _ _)), (4, .ref 0 0), (6, .d (.bool false))] ⟨rfl, rfl, rfl, rfl, trivial⟩ ?_
    refine Runs.rseq ?_
    refine RO.opv (v' := .d (.bool false)) (opv_assign rfl) rfl ?_
    refine RO.nil ?_
    refine Runs.ret ?_
    refine thenQ_ret ?_
    refine EndQ.tmp (.inr rfl) rfl rfl 0 (by exact Nat.le_refl _) (by exact Nat.zero_le _) trivial ⟨?_, rfl⟩
    refine bool_eq ?_; rw [hid_no hl']
  · skip
    have hl' : t.lab = true := by simpa using h1
    have hk : 0 < t.kids.length := by have := (lab_iff.1 hl').2.2; omega
    refine RO.nil ?_
    refine Runs.condF rfl ?_
    refine Runs.skip ?_
    refine thenQ_normal ?_
    refine Runs.has [(0, .d (encL _)), (2, .d (.int _ _)), (4, .ref 0 0), (6, .d (.bool false))] ⟨rfl, rfl, rfl, rfl, trivial⟩ ?_
    refine Runs.rseq ?_
    refine RO.opv (v' := .ref 0 3) (opv_field_ref rfl rfl) rfl ?_
    refine RO.opv (v' := .d (.list (encs _))) (opv_load_ref rfl rfl rfl) rfl ?_
    refine RO.opv (v' := .d (.ptr _)) (opv_index_terms (i := 0) rfl rfl hk) rfl ?_
    refine RO.opv (v' := .d (enc _)) (opv_load_pterm rfl) rfl ?_
    refine RO.opn (v' := .ref 1 0) (O' := [_, _]) (opv_alloc) rfl rfl ?_
    refine RO.op0n (O' := [_, _]) (opv_store_term rfl rfl rfl (Nat.le_of_ble_eq_true rfl)) rfl ?_
    refine RO.nil ?_
    refine Runs.has [(0, .d (encL _)), (2, .d (.int _ _)), (6, .d (.bool false)), (7, .ref 1 0)] ⟨rfl, rfl, rfl, rfl, trivial⟩ ?_
    refine Runs.seq ?_
    refine Runs.drawn (by kernel_rfl) [] [false, false, false, false, false, false, false, false, false, false, false, false, false, false, false, false, false, false, false, false, false, false, false, false] [false, false, false, false, false, false, false, false, false, false, false, false, false, false, false, false, false, false, false, false, false, false, false, false] (by decide +kernel) ?_
    refine RD.opv (v' := .ref 1 0) (opv_field_ref rfl rfl) rfl ?_
    refine RD.opv (v' := .d (.int _ _)) (opv_load_ref rfl rfl rfl) rfl ?_
    refine RD.opv (v' := .d (.bool _)) (opv_bin rfl rfl rfl) rfl ?_
    refine RD.opc (opv_move rfl) (fun h2 => ?_) (fun h2 => ?_)
    · skip
      have e1 : decide (t.kids[0].kind = 2) = (t.kids[0].kind == 2) := rfl
      rw [h2] at e1
      refine RD.opgv (v' := .ref 1 1) rfl (opv_field_ref rfl rfl) rfl ?_
      refine RD.opgv (v' := .d (.int _ _)) rfl (opv_load_ref rfl rfl rfl) rfl ?_
      refine RD.opgv (v' := .d (.bool _)) rfl (opv_bin rfl rfl rfl) rfl ?_
      refine RD.opv (v' := .d (.bool _)) (opv_pick rfl rfl) rfl ?_
      refine RD.opc (opv_move rfl) (fun h3 => ?_) (fun h3 => ?_)
      · skip
        have e2 : decide (0 ≤ t.kids[0].num) = _ := h3
        refine RD.opgv (v' := .ref 1 1) rfl (opv_field_ref rfl rfl) rfl ?_
        refine RD.opgv (v' := .d (.int _ _)) rfl (opv_load_ref rfl rfl rfl) rfl ?_
        refine RD.opgv (v' := .d (encL _)) rfl (opv_move rfl) rfl ?_
        refine RD.opgv (v' := .d (.int _ _)) rfl (opv_callF (llen_fn l) rfl rfl rfl trivial) rfl ?_
        refine RD.opgv (v' := .d (.bool _)) rfl (opv_bin rfl rfl rfl) rfl ?_
        refine RD.opv (v' := .d (.bool _)) (opv_pick rfl rfl) rfl ?_
        refine RD.opc (opv_move rfl) (fun h4 => ?_) (fun h4 => ?_)
        · skip
          have e3 : decide (t.kids[0].num < ((l.n : Nat) : Int)) = _ := h4
          refine RD.opgv (v' := .d (encL _)) rfl (opv_move rfl) rfl ?_
          refine RD.opgv (v' := .ref 1 1) rfl (opv_field_ref rfl rfl) rfl ?_
          refine RD.opgv (v' := .d (.int _ _)) rfl (opv_load_ref rfl rfl rfl) rfl ?_
          refine RD.opgv (v' := .d (.int _ _)) rfl (opv_move rfl) rfl ?_
          refine RD.opgv (v' := .d (.bool _)) rfl (opv_callF (leq_fn l hl _ _) rfl rfl rfl trivial) rfl ?_
          refine RD.opgv (v' := .d (.bool _)) rfl (opv_not rfl rfl) rfl ?_
          refine RD.opv (v' := .d (.bool _)) (opv_pick rfl rfl) rfl ?_
          refine RD.opv (v' := .d (.bool _)) (opv_assign rfl) rfl ?_
          refine RD.nil ?_
          refine thenQ_normal ?_
          refine Runs.ret ?_
          refine EndQ.tmp (.inr rfl) rfl rfl 0 (by exact Nat.le_refl _) (by exact Nat.zero_le _) trivial ⟨?_, rfl⟩
          refine bool_eq ?_; rw [hid_lab hl' hk]; simp only [hid1, *, Bool.true_and, Bool.false_and]
        · skip
          have e3 : decide (t.kids[0].num < ((l.n : Nat) : Int)) = _ := h4
          refine RD.off rfl ?_
          refine RD.off rfl ?_
          refine RD.off rfl ?_
          refine RD.off rfl ?_
          refine RD.off rfl ?_
          refine RD.off rfl ?_
          refine RD.opv (v' := .d (.bool false)) (opv_pick rfl rfl) rfl ?_
          refine RD.opv (v' := .d (.bool false)) (opv_assign rfl) rfl ?_
          refine RD.nil ?_
          refine thenQ_normal ?_
          refine Runs.ret ?_
          refine EndQ.tmp (.inr rfl) rfl rfl 0 (by exact Nat.le_refl _) (by exact Nat.zero_le _) trivial ⟨?_, rfl⟩
          refine bool_eq ?_; rw [hid_lab hl' hk]; simp only [hid1, *, Bool.true_and, Bool.false_and]
      · skip
        have e2 : decide (0 ≤ t.kids[0].num) = _ := h3
        refine RD.off rfl ?_
        refine RD.off rfl ?_
        refine RD.off rfl ?_
        refine RD.off rfl ?_
        refine RD.off rfl ?_
        refine RD.opv (v' := .d (.bool false)) (opv_pick rfl rfl) rfl ?_
        refine RD.opv (v' := .d (.bool false)) (opv_move rfl) rfl ?_
        refine RD.off rfl ?_
        refine RD.off rfl ?_
        refine RD.off rfl ?_
        refine RD.off rfl ?_
        refine RD.off rfl ?_
        refine RD.off rfl ?_
        refine RD.opv (v' := .d (.bool false)) (opv_pick rfl rfl) rfl ?_
        refine RD.opv (v' := .d (.bool false)) (opv_assign rfl) rfl ?_
        refine RD.nil ?_
        refine thenQ_normal ?_
        refine Runs.ret ?_
        refine EndQ.tmp (.inr rfl) rfl rfl 0 (by exact Nat.le_refl _) (by exact Nat.zero_le _) trivial ⟨?_, rfl⟩
        refine bool_eq ?_; rw [hid_lab hl' hk]; simp only [hid1, *, Bool.true_and, Bool.false_and]
    · skip
      have e1 : decide (t.kids[0].kind = 2) = (t.kids[0].kind == 2) := rfl
      rw [h2] at e1
      refine RD.off rfl ?_
      refine RD.off rfl ?_
      refine RD.off rfl ?_
      refine RD.opv (v' := .d (.bool false)) (opv_pick rfl rfl) rfl ?_
      refine RD.opv (v' := .d (.bool false)) (opv_move rfl) rfl ?_
      refine RD.off rfl ?_
      refine RD.off rfl ?_
      refine RD.off rfl ?_
      refine RD.off rfl ?_
      refine RD.off rfl ?_
      refine RD.opv (v' := .d (.bool false)) (opv_pick rfl rfl) rfl ?_
      refine RD.opv (v' := .d (.bool false)) (opv_move rfl) rfl ?_
      refine RD.off rfl ?_
      refine RD.off rfl ?_
      refine RD.off rfl ?_
      refine RD.off rfl ?_
      refine RD.off rfl ?_
      refine RD.off rfl ?_
      refine RD.opv (v' := .d (.bool false)) (opv_pick rfl rfl) rfl ?_
      refine RD.opv (v' := .d (.bool false)) (opv_assign rfl) rfl ?_
      refine RD.nil ?_
      refine thenQ_normal ?_
      refine Runs.ret ?_
      refine EndQ.tmp (.inr rfl) rfl rfl 0 (by exact Nat.le_refl _) (by exact Nat.zero_le _) trivial ⟨?_, rfl⟩
      refine bool_eq ?_; rw [hid_lab hl' hk]; simp only [hid1, *, Bool.true_and, Bool.false_and]
theorem low_fn (l : Lt) (hl : l.Ok) (ts : List Term) (lv : Int) (hb : bulks ts ≤ 2 ^ 30) : Fn Try.prog 20 [.d (encL l), .d (.list (encs ts)), .d (.int .i64 lv)] [] (.d (.list (encs (low l lv ts)))) [] := by
  have hL := bulks_len ts
  refine Does.run Try.func20 rfl Try.ntmps20 rfl fun K hK => ?_
  refine Runs.rseq ?_
  refine RO.opv (v' := .nil0) (opv_assign rfl) rfl ?_
  refine RO.nil ?_
  refine Runs.rseq ?_
  refine RO.opv (v' := .nil0) (opv_assign rfl) rfl ?_
  refine RO.nil ?_
  refine Runs.seq ?_
  refine Runs.adopt 7 39 4 rfl ?_
  refine Runs.rseq ?_
  refine RO.opv (v' := .d (.list (encs _))) (opv_move rfl) rfl ?_
  refine RO.opv (v' := .d (.int _ _)) (opv_len_terms rfl) rfl ?_
  refine RO.opv (v' := .d (.int _ _)) (opv_move rfl) rfl ?_
  refine RO.nil ?_
  refine Runs.block ?_
  refine Runs.loopC (X := (Nat × Nat)) (fun x => x.1 ≤ ts.length) (fun x => ts.length - x.1) [(0, .d (encL _)), (2, .d (.int _ _)), (6, .nil0), (10, .d (.list (encs _))), (11, .d (.int _ _))] (fun x => [(7, .own 0 (1 + x.2)), (12, .d (.int .i64 (x.1 : Nat)))]) [] (fun x => [.buf 39 4 (encs (low l lv (ts.take x.1))) (1 + x.2)]) (((0 : Nat), (0 : Nat))) ⟨rfl, rfl, rfl, rfl, rfl, trivial⟩ ⟨rfl, rfl, trivial⟩ rfl (Nat.zero_le _) fun x hi => ?_
  refine Runs.rseq ?_
  refine RO.opc (opv_bin rfl rfl rfl) (fun h1 => ?_) (fun h1 => ?_)
  · try simp only [decide_eq_true_eq, decide_eq_false_iff_not, beq_iff_eq, beq_eq_false_iff_ne, bne_iff_ne, bne_eq_false_iff_eq, Int.not_lt, Int.not_le, ne_eq, Bool.not_eq_true', Bool.not_eq_false', gt_iff_lt, ge_iff_le] at h1
    have hk : x.1 < ts.length := by omega
    have hbi := bulks_mem (List.getElem_mem hk)
    refine RO.nil ?_
    refine Runs.seq ?_
    refine Runs.condT rfl ?_
    refine Runs.skip ?_
    refine thenQ_normal ?_
    refine Runs.has [(0, .d (encL _)), (2, .d (.int _ _)), (6, .nil0), (7, .own 0 _), (10, .d (.list (encs _))), (11, .d (.int _ _)), (12, .d (.int _ _))] ⟨rfl, rfl, rfl, rfl, rfl, rfl, rfl, trivial⟩ ?_
    refine Runs.seq ?_
    refine Runs.block ?_
    refine Runs.rseq ?_
    refine RO.opv (v' := .d (.ptr _)) (opv_index_terms rfl rfl (by omega)) rfl ?_
    refine RO.opv (v' := .d (enc _)) (opv_load_pterm rfl) rfl ?_
    refine RO.opn (v' := .ref 1 0) (O' := [_, _]) (opv_alloc) rfl rfl ?_
    refine RO.op0n (O' := [_, _]) (opv_store_term rfl rfl rfl (Nat.le_of_ble_eq_true rfl)) rfl ?_
    refine RO.nil ?_
    refine Runs.has [(0, .d (encL _)), (2, .d (.int _ _)), (6, .nil0), (7, .own 0 _), (9, .ref 1 0), (10, .d (.list (encs _))), (11, .d (.int _ _)), (12, .d (.int _ _))] ⟨rfl, rfl, rfl, rfl, rfl, rfl, rfl, rfl, trivial⟩ ?_
    refine Runs.rseq ?_
    refine RO.opv (v' := .d (encL _)) (opv_move rfl) rfl ?_
    refine RO.opv (v' := .d (enc _)) (opv_load_term rfl rfl rfl) rfl ?_
    refine RO.opv (v' := .d (.int _ _)) (opv_move rfl) rfl ?_
    refine RO.opv (v' := .d (.bool _)) (opv_callF (hid_fn l hl ts[x.1] lv) rfl rfl rfl trivial) rfl ?_
    refine RO.opc (opv_not rfl rfl) (fun h2 => ?_) (fun h2 => ?_)
    · try simp only [decide_eq_true_eq, decide_eq_false_iff_not, beq_iff_eq, beq_eq_false_iff_ne, bne_iff_ne, bne_eq_false_iff_eq, Int.not_lt, Int.not_le, ne_eq, Bool.not_eq_true', Bool.not_eq_false', gt_iff_lt, ge_iff_le] at h2
      have hh := h2
      refine RO.nil ?_
      refine Runs.condT rfl ?_
      refine Runs.has [(0, .d (encL _)), (2, .d (.int _ _)), (6, .nil0), (7, .own 0 _), (9, .ref 1 0), (10, .d (.list (encs _))), (11, .d (.int _ _)), (12, .d (.int _ _))] ⟨rfl, rfl, rfl, rfl, rfl, rfl, rfl, rfl, trivial⟩ ?_
      refine Runs.region ?_
      refine RO.opv (v' := .own 0 _) (opv_move rfl) rfl ?_
      refine RO.opv (v' := .d (encL _)) (opv_move rfl) rfl ?_
      refine RO.opv (v' := .d (enc _)) (opv_load_term rfl rfl rfl) rfl ?_
      refine RO.opv (v' := .d (.int _ _)) (opv_move rfl) rfl ?_
      refine RO.opv (v' := .d (enc _)) (opv_callF (seen_fn l hl ts[x.1] lv (by omega)) rfl rfl rfl trivial) rfl ?_
      refine RO.opv (v' := .d (.list (encs _))) (opv_bs_term1 rfl ) rfl ?_
      refine RO.opn (v' := .own 0 _) (O' := [_, _]) (opv_append_terms rfl rfl rfl (by have := low_len l lv (ts.take x.1); simp at this; simp; omega)) rfl rfl ?_
      refine RO.opv (v' := .own 0 _) (opv_assign rfl) rfl ?_
      refine RO.nil ?_
      refine blockQ_normal ?_
      refine thenQ_normal ?_
      refine Runs.has [(0, .d (encL _)), (2, .d (.int _ _)), (6, .nil0), (7, .own 0 _), (10, .d (.list (encs _))), (11, .d (.int _ _)), (12, .d (.int _ _))] ⟨rfl, rfl, rfl, rfl, rfl, rfl, rfl, trivial⟩ ?_
      refine Runs.region ?_
      refine RO.opv (v' := .d (.int _ _)) (opv_bin rfl rfl rfl) rfl ?_
      refine RO.opv (v' := .d (.int _ _)) (opv_move rfl) rfl ?_
      refine RO.nil ?_
      refine thenQ_normal ?_
      refine ⟨(x.1 + 1, x.2 + 1), 1, (by rw [hK]; exact Nat.le_of_ble_eq_true rfl), ⟨rfl, rfl, rfl, rfl, rfl, trivial⟩, ⟨?_, ?_, trivial⟩, ?_, ?_, ?_⟩
      · rfl
      · refine int_eq ?_; rw [wrap64 (by omega) (by omega)]; omega
      · first | (rw [low_in hk hh]; rfl) | (rw [low_out hk hh]; rfl)
      · show x.1 + 1 ≤ _; omega
      · show ts.length - (x.1 + 1) < _; omega
    · try simp only [decide_eq_true_eq, decide_eq_false_iff_not, beq_iff_eq, beq_eq_false_iff_ne, bne_iff_ne, bne_eq_false_iff_eq, Int.not_lt, Int.not_le, ne_eq, Bool.not_eq_true', Bool.not_eq_false', gt_iff_lt, ge_iff_le] at h2
      have hh := h2
      refine RO.nil ?_
      refine Runs.condF rfl ?_
      refine Runs.skip ?_
      refine blockQ_normal ?_
      refine thenQ_normal ?_
      refine Runs.has [(0, .d (encL _)), (2, .d (.int _ _)), (6, .nil0), (7, .own 0 _), (10, .d (.list (encs _))), (11, .d (.int _ _)), (12, .d (.int _ _))] ⟨rfl, rfl, rfl, rfl, rfl, rfl, rfl, trivial⟩ ?_
      refine Runs.region ?_
      refine RO.opv (v' := .d (.int _ _)) (opv_bin rfl rfl rfl) rfl ?_
      refine RO.opv (v' := .d (.int _ _)) (opv_move rfl) rfl ?_
      refine RO.nil ?_
      refine thenQ_normal ?_
      refine ⟨(x.1 + 1, x.2), 1, (by rw [hK]; exact Nat.le_of_ble_eq_true rfl), ⟨rfl, rfl, rfl, rfl, rfl, trivial⟩, ⟨?_, ?_, trivial⟩, ?_, ?_, ?_⟩
      · rfl
      · refine int_eq ?_; rw [wrap64 (by omega) (by omega)]; omega
      · first | (rw [low_in hk hh]; rfl) | (rw [low_out hk hh]; rfl)
      · show x.1 + 1 ≤ _; omega
      · show ts.length - (x.1 + 1) < _; omega
  · try simp only [decide_eq_true_eq, decide_eq_false_iff_not, beq_iff_eq, beq_eq_false_iff_ne, bne_iff_ne, bne_eq_false_iff_eq, Int.not_lt, Int.not_le, ne_eq, Bool.not_eq_true', Bool.not_eq_false', gt_iff_lt, ge_iff_le] at h1
    have hk : x.1 = ts.length := by omega
    refine RO.nil ?_
    refine Runs.seq ?_
    refine Runs.condF rfl ?_
    refine Runs.exit ?_
    refine thenQ_exit ?_
    refine thenQ_exit ?_
    refine blockQ_here ?_
    refine thenQ_normal ?_
    refine Runs.has [(6, .nil0), (7, .own 0 _)] ⟨rfl, rfl, trivial⟩ ?_
    refine Runs.shut 7 rfl rfl ?_
    refine Runs.rseq ?_
    refine RO.opv (v' := .d (.list (encs _))) (opv_move rfl) rfl ?_
    refine RO.opv (v' := .d (.list (encs _))) (opv_assign rfl) rfl ?_
    refine RO.nil ?_
    refine Runs.ret ?_
    refine EndQ.tmp (.inr rfl) rfl rfl 0 (by exact Nat.le_refl _) (by exact Nat.zero_le _) trivial ⟨?_, rfl⟩
    refine terms_eq ?_; rw [hk, List.take_length]
end Go.Proofs.Ytljmkgjemmoegaa.AM
