import Derived.Test.YtegfpnpghfcopaaHg
import Derived.Test.YtegfpnpghfcopaaSg
import Derived.Test.YtegfpnpghfcopaaU2
namespace Go.Proofs.Ytegfpnpghfcopaa.AM
open Go
set_option linter.unusedVariables false
set_option linter.unusedSimpArgs false
set_option linter.unusedSectionVars false
theorem pairs_fn (xs ys : List Term) (h : xs.length = ys.length) (hl : xs.length ≤ 2 ^ 20) : Fn Try.prog 45 [.d (.list (encs xs)), .d (.list (encs ys))] [] (.own 0 (1 + xs.length)) [.buf 77 8 (encTTs (xs.zip ys).reverse) (1 + xs.length)] := by
  refine Does.run Try.func45 rfl Try.ntmps45 rfl fun K hK => ?_
  refine Runs.rseq ?_
  refine RO.opv (v' := .nil0) (opv_assign rfl) rfl ?_
  refine RO.nil ?_
  refine Runs.rseq ?_
  refine RO.opv (v' := .nil0) (opv_assign rfl) rfl ?_
  refine RO.nil ?_
  refine Runs.seq ?_
  refine Runs.adopt 5 77 8 rfl ?_
  refine Runs.rseq ?_
  refine RO.opv (v' := .d (.list (encs _))) (opv_move rfl) rfl ?_
  refine RO.opv (v' := .d (.int _ _)) (opv_len_terms rfl) rfl ?_
  refine RO.opv (v' := .d (.int _ _)) (opv_arith (r := (xs.length : Int) - 1) rfl rfl (by simp only [binD, if_true]; rw [wrap64 (by omega) (by omega)])) rfl ?_
  refine RO.opv (v' := .d (.int _ _)) (opv_assign rfl) rfl ?_
  refine RO.nil ?_
  refine Runs.block ?_
  refine Runs.loopC (X := Nat) (fun i => i ≤ xs.length) (fun i => i) [(0, .d (.list (encs _))), (1, .d (.list (encs _))), (4, .nil0)] (fun i => [(5, .own 0 (1 + (xs.length - i))), (6, .d (.int .i64 ((i : Int) - 1)))]) [] (fun i => [.buf 77 8 (encTTs ((xs.drop i).zip (ys.drop i)).reverse) (1 + (xs.length - i))]) (xs.length) ⟨rfl, rfl, rfl, trivial⟩ ⟨(by rw [Nat.sub_self]; rfl), rfl, trivial⟩ (by simp [encTTs]) (Nat.le_refl _) fun i hi => ?_
  refine Runs.seq ?_
  refine Runs.rseq ?_
  refine RO.opv (v' := .d (.int _ _)) (opv_move rfl) rfl ?_
  refine RO.opc (opv_bin rfl rfl rfl) (fun h1 => ?_) (fun h1 => ?_)
  · try simp only [decide_eq_true_eq, decide_eq_false_iff_not, beq_iff_eq, beq_eq_false_iff_ne, bne_iff_ne, bne_eq_false_iff_eq, Int.not_lt, Int.not_le, ne_eq, Bool.not_eq_true', Bool.not_eq_false', gt_iff_lt, ge_iff_le] at h1
    have hp : 0 < i := by omega
    refine RO.nil ?_
    refine Runs.condT rfl ?_
    refine Runs.skip ?_
    refine thenQ_normal ?_
    refine Runs.has [(0, .d (.list (encs _))), (1, .d (.list (encs _))), (4, .nil0), (5, .own 0 _), (6, .d (.int _ _))] ⟨rfl, rfl, rfl, rfl, rfl, trivial⟩ ?_
    refine Runs.seq ?_
    refine Runs.block ?_
    refine Runs.drawn (by kernel_rfl) [] [false, false, false, false, false, false, false, false, false, false, false, false, false] [false, false, false, false, false, false, false, false, false, false, false, true, false] (by decide +kernel) ?_
    refine RD.opv (v' := .own 0 _) (opv_move rfl) rfl ?_
    refine RD.opv (v' := .d (.list (encs _))) (opv_move rfl) rfl ?_
    refine RD.opv (v' := .d (.int _ _)) (opv_move rfl) rfl ?_
    refine RD.opv (v' := .d (.ptr _)) (opv_index_terms (i := i - 1) rfl (by exact int_eq (by omega)) (by omega)) rfl ?_
    refine RD.opv (v' := .d (enc _)) (opv_load_pterm rfl) rfl ?_
    refine RD.opv (v' := .d (.list (encs _))) (opv_move rfl) rfl ?_
    refine RD.opv (v' := .d (.int _ _)) (opv_move rfl) rfl ?_
    refine RD.opv (v' := .d (.ptr _)) (opv_index_terms (i := i - 1) rfl (by exact int_eq (by omega)) (by omega)) rfl ?_
    refine RD.opv (v' := .d (enc _)) (opv_load_pterm rfl) rfl ?_
    refine RD.opv (v' := .d (encTT _)) (opv_build_tt rfl rfl rfl) rfl ?_
    refine RD.opv (v' := .d (.list (encTTs _))) (opv_bs_tt rfl) rfl ?_
    refine RD.opn (v' := .own 0 _) (O' := [_]) (opv_append_ott rfl rfl rfl (by simp; omega)) rfl rfl trivial ?_
    refine RD.opv (v' := .own 0 _) (opv_assign rfl) rfl ?_
    refine RD.nil ?_
    refine blockQ_normal ?_
    refine thenQ_normal ?_
    refine Runs.has [(0, .d (.list (encs _))), (1, .d (.list (encs _))), (4, .nil0), (5, .own 0 _), (6, .d (.int _ _))] ⟨rfl, rfl, rfl, rfl, rfl, trivial⟩ ?_
    refine Runs.region ?_
    refine RO.opv (v' := .d (.int _ _)) (opv_move rfl) rfl ?_
    refine RO.opv (v' := .d (.int _ _)) (opv_bin rfl rfl rfl) rfl ?_
    refine RO.opv (v' := .d (.int _ _)) (opv_assign rfl) rfl ?_
    refine RO.nil ?_
    refine thenQ_normal ?_
    refine ⟨i - 1, 1, (by rw [hK]; exact Nat.le_of_ble_eq_true rfl), ⟨rfl, rfl, rfl, trivial⟩, ⟨?_, ?_, trivial⟩, ?_, ?_, ?_⟩
    · rw [show 1 + (xs.length - (i - 1)) = 1 + (xs.length - i) + 1 by omega]; rfl
    · refine int_eq ?_; rw [wrap64 (by omega) (by omega)]; omega
    · have e := zip_drop (xs := xs) (ys := ys) (i := i - 1) (by omega) (by omega); rw [show i - 1 + 1 = i by omega] at e; rw [e, show 1 + (xs.length - (i - 1)) = 1 + (xs.length - i) + 1 by omega]; rfl
    · omega
    · omega
  · try simp only [decide_eq_true_eq, decide_eq_false_iff_not, beq_iff_eq, beq_eq_false_iff_ne, bne_iff_ne, bne_eq_false_iff_eq, Int.not_lt, Int.not_le, ne_eq, Bool.not_eq_true', Bool.not_eq_false', gt_iff_lt, ge_iff_le] at h1
    have hp : i = 0 := by omega
    refine RO.nil ?_
    refine Runs.condF rfl ?_
    refine Runs.exit ?_
    refine thenQ_exit ?_
    refine thenQ_exit ?_
    refine blockQ_here ?_
    refine thenQ_normal ?_
    refine Runs.has [(4, .nil0), (5, .own 0 _)] ⟨rfl, rfl, trivial⟩ ?_
    refine Runs.rseq ?_
    refine RO.opv (v' := .own 0 _) (opv_move rfl) rfl ?_
    refine RO.opv (v' := .own 0 _) (opv_assign rfl) rfl ?_
    refine RO.nil ?_
    refine Runs.ret ?_
    refine EndQ.tmp (.inr rfl) rfl rfl 1 (by simp) (by simp) (by exact Nat.zero_lt_one) ⟨?_, ?_⟩
    · subst hp; rfl
    · subst hp; rfl
theorem pairsD_fn (xs ys : List Term) (h : xs.length = ys.length) (hl : xs.length ≤ 2 ^ 20) : Fn Try.prog 45 [.d (.list (encs xs)), .d (.list (encs ys))] [] (.d (.list (encTTs (xs.zip ys).reverse))) [] := by
  refine Does.run Try.func45 rfl Try.ntmps45 rfl fun K hK => ?_
  refine Runs.rseq ?_
  refine RO.opv (v' := .nil0) (opv_assign rfl) rfl ?_
  refine RO.nil ?_
  refine Runs.rseq ?_
  refine RO.opv (v' := .nil0) (opv_assign rfl) rfl ?_
  refine RO.nil ?_
  refine Runs.seq ?_
  refine Runs.adopt 5 77 8 rfl ?_
  refine Runs.rseq ?_
  refine RO.opv (v' := .d (.list (encs _))) (opv_move rfl) rfl ?_
  refine RO.opv (v' := .d (.int _ _)) (opv_len_terms rfl) rfl ?_
  refine RO.opv (v' := .d (.int _ _)) (opv_arith (r := (xs.length : Int) - 1) rfl rfl (by simp only [binD, if_true]; rw [wrap64 (by omega) (by omega)])) rfl ?_
  refine RO.opv (v' := .d (.int _ _)) (opv_assign rfl) rfl ?_
  refine RO.nil ?_
  refine Runs.block ?_
  refine Runs.loopC (X := Nat) (fun i => i ≤ xs.length) (fun i => i) [(0, .d (.list (encs _))), (1, .d (.list (encs _))), (4, .nil0)] (fun i => [(5, .own 0 (1 + (xs.length - i))), (6, .d (.int .i64 ((i : Int) - 1)))]) [] (fun i => [.buf 77 8 (encTTs ((xs.drop i).zip (ys.drop i)).reverse) (1 + (xs.length - i))]) (xs.length) ⟨rfl, rfl, rfl, trivial⟩ ⟨(by rw [Nat.sub_self]; rfl), rfl, trivial⟩ (by simp [encTTs]) (Nat.le_refl _) fun i hi => ?_
  refine Runs.seq ?_
  refine Runs.rseq ?_
  refine RO.opv (v' := .d (.int _ _)) (opv_move rfl) rfl ?_
  refine RO.opc (opv_bin rfl rfl rfl) (fun h1 => ?_) (fun h1 => ?_)
  · try simp only [decide_eq_true_eq, decide_eq_false_iff_not, beq_iff_eq, beq_eq_false_iff_ne, bne_iff_ne, bne_eq_false_iff_eq, Int.not_lt, Int.not_le, ne_eq, Bool.not_eq_true', Bool.not_eq_false', gt_iff_lt, ge_iff_le] at h1
    have hp : 0 < i := by omega
    refine RO.nil ?_
    refine Runs.condT rfl ?_
    refine Runs.skip ?_
    refine thenQ_normal ?_
    refine Runs.has [(0, .d (.list (encs _))), (1, .d (.list (encs _))), (4, .nil0), (5, .own 0 _), (6, .d (.int _ _))] ⟨rfl, rfl, rfl, rfl, rfl, trivial⟩ ?_
    refine Runs.seq ?_
    refine Runs.block ?_
    refine Runs.drawn (by kernel_rfl) [] [false, false, false, false, false, false, false, false, false, false, false, false, false] [false, false, false, false, false, false, false, false, false, false, false, true, false] (by decide +kernel) ?_
    refine RD.opv (v' := .own 0 _) (opv_move rfl) rfl ?_
    refine RD.opv (v' := .d (.list (encs _))) (opv_move rfl) rfl ?_
    refine RD.opv (v' := .d (.int _ _)) (opv_move rfl) rfl ?_
    refine RD.opv (v' := .d (.ptr _)) (opv_index_terms (i := i - 1) rfl (by exact int_eq (by omega)) (by omega)) rfl ?_
    refine RD.opv (v' := .d (enc _)) (opv_load_pterm rfl) rfl ?_
    refine RD.opv (v' := .d (.list (encs _))) (opv_move rfl) rfl ?_
    refine RD.opv (v' := .d (.int _ _)) (opv_move rfl) rfl ?_
    refine RD.opv (v' := .d (.ptr _)) (opv_index_terms (i := i - 1) rfl (by exact int_eq (by omega)) (by omega)) rfl ?_
    refine RD.opv (v' := .d (enc _)) (opv_load_pterm rfl) rfl ?_
    refine RD.opv (v' := .d (encTT _)) (opv_build_tt rfl rfl rfl) rfl ?_
    refine RD.opv (v' := .d (.list (encTTs _))) (opv_bs_tt rfl) rfl ?_
    refine RD.opn (v' := .own 0 _) (O' := [_]) (opv_append_ott rfl rfl rfl (by simp; omega)) rfl rfl trivial ?_
    refine RD.opv (v' := .own 0 _) (opv_assign rfl) rfl ?_
    refine RD.nil ?_
    refine blockQ_normal ?_
    refine thenQ_normal ?_
    refine Runs.has [(0, .d (.list (encs _))), (1, .d (.list (encs _))), (4, .nil0), (5, .own 0 _), (6, .d (.int _ _))] ⟨rfl, rfl, rfl, rfl, rfl, trivial⟩ ?_
    refine Runs.region ?_
    refine RO.opv (v' := .d (.int _ _)) (opv_move rfl) rfl ?_
    refine RO.opv (v' := .d (.int _ _)) (opv_bin rfl rfl rfl) rfl ?_
    refine RO.opv (v' := .d (.int _ _)) (opv_assign rfl) rfl ?_
    refine RO.nil ?_
    refine thenQ_normal ?_
    refine ⟨i - 1, 1, (by rw [hK]; exact Nat.le_of_ble_eq_true rfl), ⟨rfl, rfl, rfl, trivial⟩, ⟨?_, ?_, trivial⟩, ?_, ?_, ?_⟩
    · rw [show 1 + (xs.length - (i - 1)) = 1 + (xs.length - i) + 1 by omega]; rfl
    · refine int_eq ?_; rw [wrap64 (by omega) (by omega)]; omega
    · have e := zip_drop (xs := xs) (ys := ys) (i := i - 1) (by omega) (by omega); rw [show i - 1 + 1 = i by omega] at e; rw [e, show 1 + (xs.length - (i - 1)) = 1 + (xs.length - i) + 1 by omega]; rfl
    · omega
    · omega
  · try simp only [decide_eq_true_eq, decide_eq_false_iff_not, beq_iff_eq, beq_eq_false_iff_ne, bne_iff_ne, bne_eq_false_iff_eq, Int.not_lt, Int.not_le, ne_eq, Bool.not_eq_true', Bool.not_eq_false', gt_iff_lt, ge_iff_le] at h1
    have hp : i = 0 := by omega
    refine RO.nil ?_
    refine Runs.condF rfl ?_
    refine Runs.exit ?_
    refine thenQ_exit ?_
    refine thenQ_exit ?_
    refine blockQ_here ?_
    refine thenQ_normal ?_
    refine Runs.has [(4, .nil0), (5, .own 0 _)] ⟨rfl, rfl, trivial⟩ ?_
    refine Runs.shut 5 rfl rfl ?_
    refine Runs.rseq ?_
    refine RO.opv (v' := .d (.list (encTTs _))) (opv_move rfl) rfl ?_
    refine RO.opv (v' := .d (.list (encTTs _))) (opv_assign rfl) rfl ?_
    refine RO.nil ?_
    refine Runs.ret ?_
    refine EndQ.tmp (.inr rfl) rfl rfl 0 (by exact Nat.le_refl _) (by exact Nat.zero_le _) trivial ⟨?_, rfl⟩
    subst hp; rfl
theorem mbind_fn (s : St) (a b : Term) (hs : s.Ok (2 ^ 20)) (ha : a.bulk ≤ 2 ^ 20) (hb : b.bulk ≤ 2 ^ 20) : Fn Try.prog 46 [.ref 2 0, .d (encTT (a, b))] [.buf 88 5 (encCells (s).cs) (s).v1, .buf 3 1 (ints (s).tr) (s).v2, .cells [.own 0 (s).v1, .own 1 (s).v2]] (.tup [.d (.bool (mbind s a b).2.1), .d (.bool (mbind s a b).2.2)]) [.buf 88 5 (encCells ((mbind s a b).1).cs) ((mbind s a b).1).v1, .buf 3 1 (ints ((mbind s a b).1).tr) ((mbind s a b).1).v2, .cells [.own 0 ((mbind s a b).1).v1, .own 1 ((mbind s a b).1).v2]] := by
  refine Does.run Try.func46 rfl Try.ntmps46 rfl fun K hK => ?_
  refine Runs.rseq ?_
  refine RO.opn (v' := .ref 3 0) (O' := [_, _, _, _]) (opv_box_tt rfl) rfl rfl ?_
  refine RO.opv (v' := .d (.bool false)) (opv_assign rfl) rfl ?_
  refine RO.opv (v' := .d (.bool false)) (opv_assign rfl) rfl ?_
  refine RO.nil ?_
  refine Runs.has [(0, .ref 2 0), (3, .ref 3 0), (4, .d (.bool false)), (5, .d (.bool false))] ⟨rfl, rfl, rfl, rfl, trivial⟩ ?_
  refine Runs.seq ?_
  refine Runs.block ?_
  refine Runs.rseq ?_
  refine RO.opv (v' := .ref 3 0) (opv_field_ref rfl rfl) rfl ?_
  refine RO.opv (v' := .ref 3 0) (opv_field_ref rfl rfl) rfl ?_
  refine RO.opv (v' := .d (.int _ _)) (opv_load_ref rfl rfl rfl) rfl ?_
  refine RO.opv (v' := .d (.bool _)) (opv_bin rfl rfl rfl) rfl ?_
  refine RO.opc (opv_move rfl) (fun h1 => ?_) (fun h1 => ?_)
  · try simp only [decide_eq_true_eq, decide_eq_false_iff_not, beq_iff_eq, beq_eq_false_iff_ne, bne_iff_ne, bne_eq_false_iff_eq, Int.not_lt, Int.not_le, ne_eq, Bool.not_eq_true', Bool.not_eq_false', gt_iff_lt, ge_iff_le] at h1
    refine RO.opgv (v' := .ref 3 4) rfl (opv_field_ref rfl rfl) rfl ?_
    refine RO.opgv (v' := .ref 3 4) rfl (opv_field_ref rfl rfl) rfl ?_
    refine RO.opgv (v' := .d (.int _ _)) rfl (opv_load_ref rfl rfl rfl) rfl ?_
    refine RO.opgv (v' := .d (.bool _)) rfl (opv_bin rfl rfl rfl) rfl ?_
    refine RO.opv (v' := .d (.bool _)) (opv_pick rfl rfl) rfl ?_
    refine RO.opc (opv_move rfl) (fun h2 => ?_) (fun h2 => ?_)
    · try simp only [decide_eq_true_eq, decide_eq_false_iff_not, beq_iff_eq, beq_eq_false_iff_ne, bne_iff_ne, bne_eq_false_iff_eq, Int.not_lt, Int.not_le, ne_eq, Bool.not_eq_true', Bool.not_eq_false', gt_iff_lt, ge_iff_le] at h2
      refine RO.opgv (v' := .ref 3 0) rfl (opv_field_ref rfl rfl) rfl ?_
      refine RO.opgv (v' := .ref 3 1) rfl (opv_field_ref rfl rfl) rfl ?_
      refine RO.opgv (v' := .d (.int _ _)) rfl (opv_load_ref rfl rfl rfl) rfl ?_
      refine RO.opgv (v' := .ref 3 4) rfl (opv_field_ref rfl rfl) rfl ?_
      refine RO.opgv (v' := .ref 3 5) rfl (opv_field_ref rfl rfl) rfl ?_
      refine RO.opgv (v' := .d (.int _ _)) rfl (opv_load_ref rfl rfl rfl) rfl ?_
      refine RO.opgv (v' := .d (.bool _)) rfl (opv_bin rfl rfl rfl) rfl ?_
      refine RO.opv (v' := .d (.bool _)) (opv_pick rfl rfl) rfl ?_
      refine RO.opc (opv_assign rfl) (fun h3 => ?_) (fun h3 => ?_)
      · try simp only [decide_eq_true_eq, decide_eq_false_iff_not, beq_iff_eq, beq_eq_false_iff_ne, bne_iff_ne, bne_eq_false_iff_eq, Int.not_lt, Int.not_le, ne_eq, Bool.not_eq_true', Bool.not_eq_false', gt_iff_lt, ge_iff_le] at h3
        refine RO.nil ?_
        refine Runs.condT rfl ?_
        refine Runs.has [(4, .d (.bool false)), (5, .d (.bool false))] ⟨rfl, rfl, trivial⟩ ?_
        refine Runs.rseq ?_
        refine RO.opv (v' := .d (.bool true)) (opv_assign rfl) rfl ?_
        refine RO.opv (v' := .d (.bool true)) (opv_assign rfl) rfl ?_
        refine RO.nil ?_
        refine Runs.ret ?_
        refine blockQ_ret ?_
        refine thenQ_ret ?_
        refine EndQ.tmps2 (.inr rfl) rfl rfl rfl 3 (by exact Nat.le_refl _) (by simp) ⟨trivial, trivial, trivial⟩ ⟨?_, ?_⟩
        · first
            | (exfalso; omega)
            | (rw [(by simp [mbind, *] : mbind s a b = (s, true, true))]; rfl)
        · first
            | (exfalso; omega)
            | (rw [(by simp [mbind, *] : mbind s a b = (s, true, true))]; rfl)
      · try simp only [decide_eq_true_eq, decide_eq_false_iff_not, beq_iff_eq, beq_eq_false_iff_ne, bne_iff_ne, bne_eq_false_iff_eq, Int.not_lt, Int.not_le, ne_eq, Bool.not_eq_true', Bool.not_eq_false', gt_iff_lt, ge_iff_le] at h3
        refine RO.nil ?_
        refine Runs.condF rfl ?_
        refine Runs.has [(0, .ref 2 0), (3, .ref 3 0), (4, .d (.bool false)), (5, .d (.bool false))] ⟨rfl, rfl, rfl, rfl, trivial⟩ ?_
        refine Runs.rseq ?_
        refine RO.opv (v' := .ref 3 0) (opv_field_ref rfl rfl) rfl ?_
        refine RO.opv (v' := .ref 3 0) (opv_field_ref rfl rfl) rfl ?_
        refine RO.opv (v' := .d (.int _ _)) (opv_load_ref rfl rfl rfl) rfl ?_
        refine RO.opv (v' := .d (.bool _)) (opv_bin rfl rfl rfl) rfl ?_
        refine RO.opc (opv_assign rfl) (fun h4 => ?_) (fun h4 => ?_)
        · try simp only [decide_eq_true_eq, decide_eq_false_iff_not, beq_iff_eq, beq_eq_false_iff_ne, bne_iff_ne, bne_eq_false_iff_eq, Int.not_lt, Int.not_le, ne_eq, Bool.not_eq_true', Bool.not_eq_false', gt_iff_lt, ge_iff_le] at h4
          refine RO.nil ?_
          refine Runs.condT rfl ?_
          refine Runs.has [(0, .ref 2 0), (3, .ref 3 0), (4, .d (.bool false)), (5, .d (.bool false))] ⟨rfl, rfl, rfl, rfl, trivial⟩ ?_
          refine Runs.rseq ?_
          refine RO.opv (v' := .ref 2 0) (opv_move rfl) rfl ?_
          refine RO.opv (v' := .ref 3 0) (opv_field_ref rfl rfl) rfl ?_
          refine RO.opv (v' := .ref 3 1) (opv_field_ref rfl rfl) rfl ?_
          refine RO.opv (v' := .d (.int _ _)) (opv_load_ref rfl rfl rfl) rfl ?_
          refine RO.opv (v' := .ref 3 4) (opv_field_ref rfl rfl) rfl ?_
          refine RO.opv (v' := .d (enc _)) (opv_load_ttb rfl rfl) rfl ?_
          refine RO.opn (v' := .d (.int _ _)) (O' := [_, _, _, _]) (opv_callP 3 (bind_fn s a.num b (hs.small' (Nat.le_of_ble_eq_true rfl)) (Nat.le_trans hb (Nat.le_of_ble_eq_true rfl)) (Nat.le_trans hs.len (Nat.le_of_ble_eq_true rfl)) (Nat.lt_of_le_of_lt hs.trl (Nat.lt_of_sub_pos (by decide)))) rfl rfl (Nat.le_of_ble_eq_true rfl) rfl (AV.bds_of_B _ rfl)) rfl rfl ?_
          refine RO.opv (v' := .d (.bool _)) (opv_bin rfl rfl rfl) rfl ?_
          refine RO.opv (v' := .d (.bool true)) (opv_assign rfl) rfl ?_
          refine RO.opv (v' := .d (.bool _)) (opv_assign rfl) rfl ?_
          refine RO.nil ?_
          refine Runs.ret ?_
          refine blockQ_ret ?_
          refine thenQ_ret ?_
          refine EndQ.tmps2 (.inr rfl) rfl rfl rfl 3 (by exact Nat.le_refl _) (by simp) ⟨trivial, trivial, trivial⟩ ⟨?_, ?_⟩
          · first
              | (exfalso; omega)
              | (rw [(by simp [mbind, *] : mbind s a b = ((s.bind a.num b).1, true, (s.bind a.num b).2 == 0))]; rfl)
          · first
              | (exfalso; omega)
              | (rw [(by simp [mbind, *] : mbind s a b = ((s.bind a.num b).1, true, (s.bind a.num b).2 == 0))]; rfl)
        · try simp only [decide_eq_true_eq, decide_eq_false_iff_not, beq_iff_eq, beq_eq_false_iff_ne, bne_iff_ne, bne_eq_false_iff_eq, Int.not_lt, Int.not_le, ne_eq, Bool.not_eq_true', Bool.not_eq_false', gt_iff_lt, ge_iff_le] at h4
          refine RO.nil ?_
          refine Runs.condF rfl ?_
          refine Runs.has [(0, .ref 2 0), (3, .ref 3 0), (4, .d (.bool false)), (5, .d (.bool false))] ⟨rfl, rfl, rfl, rfl, trivial⟩ ?_
          refine Runs.rseq ?_
          refine RO.opv (v' := .ref 3 4) (opv_field_ref rfl rfl) rfl ?_
          refine RO.opv (v' := .ref 3 4) (opv_field_ref rfl rfl) rfl ?_
          refine RO.opv (v' := .d (.int _ _)) (opv_load_ref rfl rfl rfl) rfl ?_
          refine RO.opv (v' := .d (.bool _)) (opv_bin rfl rfl rfl) rfl ?_
          refine RO.opc (opv_assign rfl) (fun h5 => ?_) (fun h5 => ?_)
          · try simp only [decide_eq_true_eq, decide_eq_false_iff_not, beq_iff_eq, beq_eq_false_iff_ne, bne_iff_ne, bne_eq_false_iff_eq, Int.not_lt, Int.not_le, ne_eq, Bool.not_eq_true', Bool.not_eq_false', gt_iff_lt, ge_iff_le] at h5
            refine RO.nil ?_
            refine Runs.condT rfl ?_
            refine Runs.has [(0, .ref 2 0), (3, .ref 3 0), (4, .d (.bool false)), (5, .d (.bool false))] ⟨rfl, rfl, rfl, rfl, trivial⟩ ?_
            refine Runs.rseq ?_
            refine RO.opv (v' := .ref 2 0) (opv_move rfl) rfl ?_
            refine RO.opv (v' := .ref 3 4) (opv_field_ref rfl rfl) rfl ?_
            refine RO.opv (v' := .ref 3 5) (opv_field_ref rfl rfl) rfl ?_
            refine RO.opv (v' := .d (.int _ _)) (opv_load_ref rfl rfl rfl) rfl ?_
            refine RO.opv (v' := .ref 3 0) (opv_field_ref rfl rfl) rfl ?_
            refine RO.opv (v' := .d (enc _)) (opv_load_tta rfl rfl) rfl ?_
            refine RO.opn (v' := .d (.int _ _)) (O' := [_, _, _, _]) (opv_callP 3 (bind_fn s b.num a (hs.small' (Nat.le_of_ble_eq_true rfl)) (Nat.le_trans ha (Nat.le_of_ble_eq_true rfl)) (Nat.le_trans hs.len (Nat.le_of_ble_eq_true rfl)) (Nat.lt_of_le_of_lt hs.trl (Nat.lt_of_sub_pos (by decide)))) rfl rfl (Nat.le_of_ble_eq_true rfl) rfl (AV.bds_of_B _ rfl)) rfl rfl ?_
            refine RO.opv (v' := .d (.bool _)) (opv_bin rfl rfl rfl) rfl ?_
            refine RO.opv (v' := .d (.bool true)) (opv_assign rfl) rfl ?_
            refine RO.opv (v' := .d (.bool _)) (opv_assign rfl) rfl ?_
            refine RO.nil ?_
            refine Runs.ret ?_
            refine blockQ_ret ?_
            refine thenQ_ret ?_
            refine EndQ.tmps2 (.inr rfl) rfl rfl rfl 3 (by exact Nat.le_refl _) (by simp) ⟨trivial, trivial, trivial⟩ ⟨?_, ?_⟩
            · first
                | (exfalso; omega)
                | (rw [(by simp [mbind, *] : mbind s a b = ((s.bind b.num a).1, true, (s.bind b.num a).2 == 0))]; rfl)
            · first
                | (exfalso; omega)
                | (rw [(by simp [mbind, *] : mbind s a b = ((s.bind b.num a).1, true, (s.bind b.num a).2 == 0))]; rfl)
          · try simp only [decide_eq_true_eq, decide_eq_false_iff_not, beq_iff_eq, beq_eq_false_iff_ne, bne_iff_ne, bne_eq_false_iff_eq, Int.not_lt, Int.not_le, ne_eq, Bool.not_eq_true', Bool.not_eq_false', gt_iff_lt, ge_iff_le] at h5
            refine RO.nil ?_
            refine Runs.condF rfl ?_
            refine Runs.skip ?_
            refine blockQ_normal ?_
            refine thenQ_normal ?_
            refine Runs.has [(4, .d (.bool false)), (5, .d (.bool false))] ⟨rfl, rfl, trivial⟩ ?_
            refine Runs.rseq ?_
            refine RO.opv (v' := .d (.bool false)) (opv_assign rfl) rfl ?_
            refine RO.opv (v' := .d (.bool false)) (opv_assign rfl) rfl ?_
            refine RO.nil ?_
            refine Runs.ret ?_
            refine EndQ.tmps2 (.inr rfl) rfl rfl rfl 3 (by exact Nat.le_refl _) (by simp) ⟨trivial, trivial, trivial⟩ ⟨?_, ?_⟩
            · first
                | (exfalso; omega)
                | (rw [(by simp [mbind, *] : mbind s a b = (s, false, false))]; rfl)
            · first
                | (exfalso; omega)
                | (rw [(by simp [mbind, *] : mbind s a b = (s, false, false))]; rfl)
    · try simp only [decide_eq_true_eq, decide_eq_false_iff_not, beq_iff_eq, beq_eq_false_iff_ne, bne_iff_ne, bne_eq_false_iff_eq, Int.not_lt, Int.not_le, ne_eq, Bool.not_eq_true', Bool.not_eq_false', gt_iff_lt, ge_iff_le] at h2
      refine RO.off rfl ?_
      refine RO.off rfl ?_
      refine RO.off rfl ?_
      refine RO.off rfl ?_
      refine RO.off rfl ?_
      refine RO.off rfl ?_
      refine RO.off rfl ?_
      refine RO.opv (v' := .d (.bool false)) (opv_pick rfl rfl) rfl ?_
      refine RO.opv (v' := .d (.bool false)) (opv_assign rfl) rfl ?_
      refine RO.nil ?_
      refine Runs.condF rfl ?_
      refine Runs.has [(0, .ref 2 0), (3, .ref 3 0), (4, .d (.bool false)), (5, .d (.bool false))] ⟨rfl, rfl, rfl, rfl, trivial⟩ ?_
      refine Runs.rseq ?_
      refine RO.opv (v' := .ref 3 0) (opv_field_ref rfl rfl) rfl ?_
      refine RO.opv (v' := .ref 3 0) (opv_field_ref rfl rfl) rfl ?_
      refine RO.opv (v' := .d (.int _ _)) (opv_load_ref rfl rfl rfl) rfl ?_
      refine RO.opv (v' := .d (.bool _)) (opv_bin rfl rfl rfl) rfl ?_
      refine RO.opc (opv_assign rfl) (fun h6 => ?_) (fun h6 => ?_)
      · try simp only [decide_eq_true_eq, decide_eq_false_iff_not, beq_iff_eq, beq_eq_false_iff_ne, bne_iff_ne, bne_eq_false_iff_eq, Int.not_lt, Int.not_le, ne_eq, Bool.not_eq_true', Bool.not_eq_false', gt_iff_lt, ge_iff_le] at h6
        refine RO.nil ?_
        refine Runs.condT rfl ?_
        refine Runs.has [(0, .ref 2 0), (3, .ref 3 0), (4, .d (.bool false)), (5, .d (.bool false))] ⟨rfl, rfl, rfl, rfl, trivial⟩ ?_
        refine Runs.rseq ?_
        refine RO.opv (v' := .ref 2 0) (opv_move rfl) rfl ?_
        refine RO.opv (v' := .ref 3 0) (opv_field_ref rfl rfl) rfl ?_
        refine RO.opv (v' := .ref 3 1) (opv_field_ref rfl rfl) rfl ?_
        refine RO.opv (v' := .d (.int _ _)) (opv_load_ref rfl rfl rfl) rfl ?_
        refine RO.opv (v' := .ref 3 4) (opv_field_ref rfl rfl) rfl ?_
        refine RO.opv (v' := .d (enc _)) (opv_load_ttb rfl rfl) rfl ?_
        refine RO.opn (v' := .d (.int _ _)) (O' := [_, _, _, _]) (opv_callP 3 (bind_fn s a.num b (hs.small' (Nat.le_of_ble_eq_true rfl)) (Nat.le_trans hb (Nat.le_of_ble_eq_true rfl)) (Nat.le_trans hs.len (Nat.le_of_ble_eq_true rfl)) (Nat.lt_of_le_of_lt hs.trl (Nat.lt_of_sub_pos (by decide)))) rfl rfl (Nat.le_of_ble_eq_true rfl) rfl (AV.bds_of_B _ rfl)) rfl rfl ?_
        refine RO.opv (v' := .d (.bool _)) (opv_bin rfl rfl rfl) rfl ?_
        refine RO.opv (v' := .d (.bool true)) (opv_assign rfl) rfl ?_
        refine RO.opv (v' := .d (.bool _)) (opv_assign rfl) rfl ?_
        refine RO.nil ?_
        refine Runs.ret ?_
        refine blockQ_ret ?_
        refine thenQ_ret ?_
        refine EndQ.tmps2 (.inr rfl) rfl rfl rfl 3 (by exact Nat.le_refl _) (by simp) ⟨trivial, trivial, trivial⟩ ⟨?_, ?_⟩
        · first
            | (exfalso; omega)
            | (rw [(by simp [mbind, *] : mbind s a b = ((s.bind a.num b).1, true, (s.bind a.num b).2 == 0))]; rfl)
        · first
            | (exfalso; omega)
            | (rw [(by simp [mbind, *] : mbind s a b = ((s.bind a.num b).1, true, (s.bind a.num b).2 == 0))]; rfl)
      · try simp only [decide_eq_true_eq, decide_eq_false_iff_not, beq_iff_eq, beq_eq_false_iff_ne, bne_iff_ne, bne_eq_false_iff_eq, Int.not_lt, Int.not_le, ne_eq, Bool.not_eq_true', Bool.not_eq_false', gt_iff_lt, ge_iff_le] at h6
        refine RO.nil ?_
        refine Runs.condF rfl ?_
        refine Runs.has [(0, .ref 2 0), (3, .ref 3 0), (4, .d (.bool false)), (5, .d (.bool false))] ⟨rfl, rfl, rfl, rfl, trivial⟩ ?_
        refine Runs.rseq ?_
        refine RO.opv (v' := .ref 3 4) (opv_field_ref rfl rfl) rfl ?_
        refine RO.opv (v' := .ref 3 4) (opv_field_ref rfl rfl) rfl ?_
        refine RO.opv (v' := .d (.int _ _)) (opv_load_ref rfl rfl rfl) rfl ?_
        refine RO.opv (v' := .d (.bool _)) (opv_bin rfl rfl rfl) rfl ?_
        refine RO.opc (opv_assign rfl) (fun h7 => ?_) (fun h7 => ?_)
        · try simp only [decide_eq_true_eq, decide_eq_false_iff_not, beq_iff_eq, beq_eq_false_iff_ne, bne_iff_ne, bne_eq_false_iff_eq, Int.not_lt, Int.not_le, ne_eq, Bool.not_eq_true', Bool.not_eq_false', gt_iff_lt, ge_iff_le] at h7
          refine RO.nil ?_
          refine Runs.condT rfl ?_
          refine Runs.has [(0, .ref 2 0), (3, .ref 3 0), (4, .d (.bool false)), (5, .d (.bool false))] ⟨rfl, rfl, rfl, rfl, trivial⟩ ?_
          refine Runs.rseq ?_
          refine RO.opv (v' := .ref 2 0) (opv_move rfl) rfl ?_
          refine RO.opv (v' := .ref 3 4) (opv_field_ref rfl rfl) rfl ?_
          refine RO.opv (v' := .ref 3 5) (opv_field_ref rfl rfl) rfl ?_
          refine RO.opv (v' := .d (.int _ _)) (opv_load_ref rfl rfl rfl) rfl ?_
          refine RO.opv (v' := .ref 3 0) (opv_field_ref rfl rfl) rfl ?_
          refine RO.opv (v' := .d (enc _)) (opv_load_tta rfl rfl) rfl ?_
          refine RO.opn (v' := .d (.int _ _)) (O' := [_, _, _, _]) (opv_callP 3 (bind_fn s b.num a (hs.small' (Nat.le_of_ble_eq_true rfl)) (Nat.le_trans ha (Nat.le_of_ble_eq_true rfl)) (Nat.le_trans hs.len (Nat.le_of_ble_eq_true rfl)) (Nat.lt_of_le_of_lt hs.trl (Nat.lt_of_sub_pos (by decide)))) rfl rfl (Nat.le_of_ble_eq_true rfl) rfl (AV.bds_of_B _ rfl)) rfl rfl ?_
          refine RO.opv (v' := .d (.bool _)) (opv_bin rfl rfl rfl) rfl ?_
          refine RO.opv (v' := .d (.bool true)) (opv_assign rfl) rfl ?_
          refine RO.opv (v' := .d (.bool _)) (opv_assign rfl) rfl ?_
          refine RO.nil ?_
          refine Runs.ret ?_
          refine blockQ_ret ?_
          refine thenQ_ret ?_
          refine EndQ.tmps2 (.inr rfl) rfl rfl rfl 3 (by exact Nat.le_refl _) (by simp) ⟨trivial, trivial, trivial⟩ ⟨?_, ?_⟩
          · first
              | (exfalso; omega)
              | (rw [(by simp [mbind, *] : mbind s a b = ((s.bind b.num a).1, true, (s.bind b.num a).2 == 0))]; rfl)
          · first
              | (exfalso; omega)
              | (rw [(by simp [mbind, *] : mbind s a b = ((s.bind b.num a).1, true, (s.bind b.num a).2 == 0))]; rfl)
        · try simp only [decide_eq_true_eq, decide_eq_false_iff_not, beq_iff_eq, beq_eq_false_iff_ne, bne_iff_ne, bne_eq_false_iff_eq, Int.not_lt, Int.not_le, ne_eq, Bool.not_eq_true', Bool.not_eq_false', gt_iff_lt, ge_iff_le] at h7
          refine RO.nil ?_
          refine Runs.condF rfl ?_
          refine Runs.skip ?_
          refine blockQ_normal ?_
          refine thenQ_normal ?_
          refine Runs.has [(4, .d (.bool false)), (5, .d (.bool false))] ⟨rfl, rfl, trivial⟩ ?_
          refine Runs.rseq ?_
          refine RO.opv (v' := .d (.bool false)) (opv_assign rfl) rfl ?_
          refine RO.opv (v' := .d (.bool false)) (opv_assign rfl) rfl ?_
          refine RO.nil ?_
          refine Runs.ret ?_
          refine EndQ.tmps2 (.inr rfl) rfl rfl rfl 3 (by exact Nat.le_refl _) (by simp) ⟨trivial, trivial, trivial⟩ ⟨?_, ?_⟩
          · first
              | (exfalso; omega)
              | (rw [(by simp [mbind, *] : mbind s a b = (s, false, false))]; rfl)
          · first
              | (exfalso; omega)
              | (rw [(by simp [mbind, *] : mbind s a b = (s, false, false))]; rfl)
  · try simp only [decide_eq_true_eq, decide_eq_false_iff_not, beq_iff_eq, beq_eq_false_iff_ne, bne_iff_ne, bne_eq_false_iff_eq, Int.not_lt, Int.not_le, ne_eq, Bool.not_eq_true', Bool.not_eq_false', gt_iff_lt, ge_iff_le] at h1
    refine RO.off rfl ?_
    refine RO.off rfl ?_
    refine RO.off rfl ?_
    refine RO.off rfl ?_
    refine RO.opv (v' := .d (.bool false)) (opv_pick rfl rfl) rfl ?_
    refine RO.opv (v' := .d (.bool false)) (opv_move rfl) rfl ?_
    refine RO.off rfl ?_
    refine RO.off rfl ?_
    refine RO.off rfl ?_
    refine RO.off rfl ?_
    refine RO.off rfl ?_
    refine RO.off rfl ?_
    refine RO.off rfl ?_
    refine RO.opv (v' := .d (.bool false)) (opv_pick rfl rfl) rfl ?_
    refine RO.opv (v' := .d (.bool false)) (opv_assign rfl) rfl ?_
    refine RO.nil ?_
    refine Runs.condF rfl ?_
    refine Runs.has [(0, .ref 2 0), (3, .ref 3 0), (4, .d (.bool false)), (5, .d (.bool false))] ⟨rfl, rfl, rfl, rfl, trivial⟩ ?_
    refine Runs.rseq ?_
    refine RO.opv (v' := .ref 3 0) (opv_field_ref rfl rfl) rfl ?_
    refine RO.opv (v' := .ref 3 0) (opv_field_ref rfl rfl) rfl ?_
    refine RO.opv (v' := .d (.int _ _)) (opv_load_ref rfl rfl rfl) rfl ?_
    refine RO.opv (v' := .d (.bool _)) (opv_bin rfl rfl rfl) rfl ?_
    refine RO.opc (opv_assign rfl) (fun h8 => ?_) (fun h8 => ?_)
    · try simp only [decide_eq_true_eq, decide_eq_false_iff_not, beq_iff_eq, beq_eq_false_iff_ne, bne_iff_ne, bne_eq_false_iff_eq, Int.not_lt, Int.not_le, ne_eq, Bool.not_eq_true', Bool.not_eq_false', gt_iff_lt, ge_iff_le] at h8
      refine RO.nil ?_
      refine Runs.condT rfl ?_
      refine Runs.has [(0, .ref 2 0), (3, .ref 3 0), (4, .d (.bool false)), (5, .d (.bool false))] ⟨rfl, rfl, rfl, rfl, trivial⟩ ?_
      refine Runs.rseq ?_
      refine RO.opv (v' := .ref 2 0) (opv_move rfl) rfl ?_
      refine RO.opv (v' := .ref 3 0) (opv_field_ref rfl rfl) rfl ?_
      refine RO.opv (v' := .ref 3 1) (opv_field_ref rfl rfl) rfl ?_
      refine RO.opv (v' := .d (.int _ _)) (opv_load_ref rfl rfl rfl) rfl ?_
      refine RO.opv (v' := .ref 3 4) (opv_field_ref rfl rfl) rfl ?_
      refine RO.opv (v' := .d (enc _)) (opv_load_ttb rfl rfl) rfl ?_
      refine RO.opn (v' := .d (.int _ _)) (O' := [_, _, _, _]) (opv_callP 3 (bind_fn s a.num b (hs.small' (Nat.le_of_ble_eq_true rfl)) (Nat.le_trans hb (Nat.le_of_ble_eq_true rfl)) (Nat.le_trans hs.len (Nat.le_of_ble_eq_true rfl)) (Nat.lt_of_le_of_lt hs.trl (Nat.lt_of_sub_pos (by decide)))) rfl rfl (Nat.le_of_ble_eq_true rfl) rfl (AV.bds_of_B _ rfl)) rfl rfl ?_
      refine RO.opv (v' := .d (.bool _)) (opv_bin rfl rfl rfl) rfl ?_
      refine RO.opv (v' := .d (.bool true)) (opv_assign rfl) rfl ?_
      refine RO.opv (v' := .d (.bool _)) (opv_assign rfl) rfl ?_
      refine RO.nil ?_
      refine Runs.ret ?_
      refine blockQ_ret ?_
      refine thenQ_ret ?_
      refine EndQ.tmps2 (.inr rfl) rfl rfl rfl 3 (by exact Nat.le_refl _) (by simp) ⟨trivial, trivial, trivial⟩ ⟨?_, ?_⟩
      · first
          | (exfalso; omega)
          | (rw [(by simp [mbind, *] : mbind s a b = ((s.bind a.num b).1, true, (s.bind a.num b).2 == 0))]; rfl)
      · first
          | (exfalso; omega)
          | (rw [(by simp [mbind, *] : mbind s a b = ((s.bind a.num b).1, true, (s.bind a.num b).2 == 0))]; rfl)
    · try simp only [decide_eq_true_eq, decide_eq_false_iff_not, beq_iff_eq, beq_eq_false_iff_ne, bne_iff_ne, bne_eq_false_iff_eq, Int.not_lt, Int.not_le, ne_eq, Bool.not_eq_true', Bool.not_eq_false', gt_iff_lt, ge_iff_le] at h8
      refine RO.nil ?_
      refine Runs.condF rfl ?_
      refine Runs.has [(0, .ref 2 0), (3, .ref 3 0), (4, .d (.bool false)), (5, .d (.bool false))] ⟨rfl, rfl, rfl, rfl, trivial⟩ ?_
      refine Runs.rseq ?_
      refine RO.opv (v' := .ref 3 4) (opv_field_ref rfl rfl) rfl ?_
      refine RO.opv (v' := .ref 3 4) (opv_field_ref rfl rfl) rfl ?_
      refine RO.opv (v' := .d (.int _ _)) (opv_load_ref rfl rfl rfl) rfl ?_
      refine RO.opv (v' := .d (.bool _)) (opv_bin rfl rfl rfl) rfl ?_
      refine RO.opc (opv_assign rfl) (fun h9 => ?_) (fun h9 => ?_)
      · try simp only [decide_eq_true_eq, decide_eq_false_iff_not, beq_iff_eq, beq_eq_false_iff_ne, bne_iff_ne, bne_eq_false_iff_eq, Int.not_lt, Int.not_le, ne_eq, Bool.not_eq_true', Bool.not_eq_false', gt_iff_lt, ge_iff_le] at h9
        refine RO.nil ?_
        refine Runs.condT rfl ?_
        refine Runs.has [(0, .ref 2 0), (3, .ref 3 0), (4, .d (.bool false)), (5, .d (.bool false))] ⟨rfl, rfl, rfl, rfl, trivial⟩ ?_
        refine Runs.rseq ?_
        refine RO.opv (v' := .ref 2 0) (opv_move rfl) rfl ?_
        refine RO.opv (v' := .ref 3 4) (opv_field_ref rfl rfl) rfl ?_
        refine RO.opv (v' := .ref 3 5) (opv_field_ref rfl rfl) rfl ?_
        refine RO.opv (v' := .d (.int _ _)) (opv_load_ref rfl rfl rfl) rfl ?_
        refine RO.opv (v' := .ref 3 0) (opv_field_ref rfl rfl) rfl ?_
        refine RO.opv (v' := .d (enc _)) (opv_load_tta rfl rfl) rfl ?_
        refine RO.opn (v' := .d (.int _ _)) (O' := [_, _, _, _]) (opv_callP 3 (bind_fn s b.num a (hs.small' (Nat.le_of_ble_eq_true rfl)) (Nat.le_trans ha (Nat.le_of_ble_eq_true rfl)) (Nat.le_trans hs.len (Nat.le_of_ble_eq_true rfl)) (Nat.lt_of_le_of_lt hs.trl (Nat.lt_of_sub_pos (by decide)))) rfl rfl (Nat.le_of_ble_eq_true rfl) rfl (AV.bds_of_B _ rfl)) rfl rfl ?_
        refine RO.opv (v' := .d (.bool _)) (opv_bin rfl rfl rfl) rfl ?_
        refine RO.opv (v' := .d (.bool true)) (opv_assign rfl) rfl ?_
        refine RO.opv (v' := .d (.bool _)) (opv_assign rfl) rfl ?_
        refine RO.nil ?_
        refine Runs.ret ?_
        refine blockQ_ret ?_
        refine thenQ_ret ?_
        refine EndQ.tmps2 (.inr rfl) rfl rfl rfl 3 (by exact Nat.le_refl _) (by simp) ⟨trivial, trivial, trivial⟩ ⟨?_, ?_⟩
        · first
            | (exfalso; omega)
            | (rw [(by simp [mbind, *] : mbind s a b = ((s.bind b.num a).1, true, (s.bind b.num a).2 == 0))]; rfl)
        · first
            | (exfalso; omega)
            | (rw [(by simp [mbind, *] : mbind s a b = ((s.bind b.num a).1, true, (s.bind b.num a).2 == 0))]; rfl)
      · try simp only [decide_eq_true_eq, decide_eq_false_iff_not, beq_iff_eq, beq_eq_false_iff_ne, bne_iff_ne, bne_eq_false_iff_eq, Int.not_lt, Int.not_le, ne_eq, Bool.not_eq_true', Bool.not_eq_false', gt_iff_lt, ge_iff_le] at h9
        refine RO.nil ?_
        refine Runs.condF rfl ?_
        refine Runs.skip ?_
        refine blockQ_normal ?_
        refine thenQ_normal ?_
        refine Runs.has [(4, .d (.bool false)), (5, .d (.bool false))] ⟨rfl, rfl, trivial⟩ ?_
        refine Runs.rseq ?_
        refine RO.opv (v' := .d (.bool false)) (opv_assign rfl) rfl ?_
        refine RO.opv (v' := .d (.bool false)) (opv_assign rfl) rfl ?_
        refine RO.nil ?_
        refine Runs.ret ?_
        refine EndQ.tmps2 (.inr rfl) rfl rfl rfl 3 (by exact Nat.le_refl _) (by simp) ⟨trivial, trivial, trivial⟩ ⟨?_, ?_⟩
        · first
            | (exfalso; omega)
            | (rw [(by simp [mbind, *] : mbind s a b = (s, false, false))]; rfl)
        · first
            | (exfalso; omega)
            | (rw [(by simp [mbind, *] : mbind s a b = (s, false, false))]; rfl)
theorem match_fn (k : Nat) (hk : k < 16) (s : St) (hs0 : Sg k s) (xs ys : List Term) (hp0 : Ps k (xs.zip ys)) (hl : xs.length ≤ 1000) (hl' : ys.length ≤ 1000) : Fn Try.prog 25 [.ref 2 0, .d (encL (C k)), .d (.list (encs xs)), .d (.list (encs ys))] [.buf 88 5 (encCells (s).cs) (s).v1, .buf 3 1 (ints (s).tr) (s).v2, .cells [.own 0 (s).v1, .own 1 (s).v2]] (.tup [.d (.bool (matchS (C k) s xs ys).2.1), .d (.int .i64 (matchS (C k) s xs ys).2.2.1), .d (.int .i64 (matchS (C k) s xs ys).2.2.2)]) [.buf 88 5 (encCells ((matchS (C k) s xs ys).1).cs) ((matchS (C k) s xs ys).1).v1, .buf 3 1 (ints ((matchS (C k) s xs ys).1).tr) ((matchS (C k) s xs ys).1).v2, .cells [.own 0 ((matchS (C k) s xs ys).1).v1, .own 1 ((matchS (C k) s xs ys).1).v2]] := by
  refine Does.run Try.func25 rfl Try.ntmps25 rfl fun K hK => ?_
  refine Runs.rseq ?_
  refine RO.opv (v' := .d (.bool false)) (opv_assign rfl) rfl ?_
  refine RO.opv (v' := .d (.int _ _)) (opv_assign rfl) rfl ?_
  refine RO.opv (v' := .d (.int _ _)) (opv_assign rfl) rfl ?_
  refine RO.nil ?_
  refine Runs.scope0 ?_
  refine Runs.rseq ?_
  refine RO.opv (v' := .d (encL _)) (opv_move rfl) rfl ?_
  refine RO.opv (v' := .d (.int _ _)) (opv_callF (lbot_fn (C k) (C_ok hk)) rfl rfl rfl trivial) rfl ?_
  refine RO.opv (v' := .d (.int _ _)) (opv_assign rfl) rfl ?_
  refine RO.nil ?_
  refine Runs.has [(0, .ref 2 0), (1, .d (encL _)), (2, .d (.list (encs _))), (3, .d (.list (encs _))), (8, .d (.bool false)), (9, .d (.int _ _)), (10, .d (.int _ _)), (11, .d (.int _ _))] ⟨rfl, rfl, rfl, rfl, rfl, rfl, rfl, rfl, trivial⟩ ?_
  refine Runs.seq ?_
  refine Runs.rseq ?_
  refine RO.opv (v' := .d (.list (encs _))) (opv_move rfl) rfl ?_
  refine RO.opv (v' := .d (.int _ _)) (opv_len_terms rfl) rfl ?_
  refine RO.opv (v' := .d (.list (encs _))) (opv_move rfl) rfl ?_
  refine RO.opv (v' := .d (.int _ _)) (opv_len_terms rfl) rfl ?_
  refine RO.opc (opv_bin rfl rfl rfl) (fun h1 => ?_) (fun h1 => ?_)
  · try simp only [decide_eq_true_eq, decide_eq_false_iff_not, beq_iff_eq, beq_eq_false_iff_ne, bne_iff_ne, bne_eq_false_iff_eq, Int.not_lt, Int.not_le, ne_eq, Bool.not_eq_true', Bool.not_eq_false', gt_iff_lt, ge_iff_le] at h1
    have hle : ¬ xs.length = ys.length := by omega
    refine RO.nil ?_
    refine Runs.condT rfl ?_
    refine Runs.has [(0, .ref 2 0), (1, .d (encL _)), (2, .d (.list (encs _))), (3, .d (.list (encs _))), (8, .d (.bool false)), (9, .d (.int _ _)), (10, .d (.int _ _)), (11, .d (.int _ _))] ⟨rfl, rfl, rfl, rfl, rfl, rfl, rfl, rfl, trivial⟩ ?_
    refine Runs.rseq ?_
    refine RO.opv (v' := .d (.int _ _)) (opv_move rfl) rfl ?_
    refine RO.opv (v' := .d (.bool false)) (opv_assign rfl) rfl ?_
    refine RO.opv (v' := .d (.int _ _)) (opv_assign rfl) rfl ?_
    refine RO.opv (v' := .d (.int _ _)) (opv_assign rfl) rfl ?_
    refine RO.nil ?_
    refine Runs.ret ?_
    refine thenQ_ret ?_
    refine scope0Q_ret ?_
    refine EndQ.tmps3 (.inr rfl) rfl rfl rfl rfl 3 (by exact Nat.le_refl _) (by simp) ⟨trivial, trivial, trivial, trivial⟩ ⟨?_, ?_⟩
    · unfold matchS; rw [if_neg hle]; rfl
    · unfold matchS; rw [if_neg hle]; rfl
  · try simp only [decide_eq_true_eq, decide_eq_false_iff_not, beq_iff_eq, beq_eq_false_iff_ne, bne_iff_ne, bne_eq_false_iff_eq, Int.not_lt, Int.not_le, ne_eq, Bool.not_eq_true', Bool.not_eq_false', gt_iff_lt, ge_iff_le] at h1
    have hle : xs.length = ys.length := by omega
    have hM : matchS (C k) s xs ys = mt (C k) 2000 s (C k).bottom (xs.zip ys) := by unfold matchS; rw [if_pos hle]
    refine RO.nil ?_
    refine Runs.condF rfl ?_
    refine Runs.skip ?_
    refine thenQ_normal ?_
    refine Runs.has [(0, .ref 2 0), (1, .d (encL _)), (2, .d (.list (encs _))), (3, .d (.list (encs _))), (8, .d (.bool false)), (9, .d (.int _ _)), (10, .d (.int _ _)), (11, .d (.int _ _))] ⟨rfl, rfl, rfl, rfl, rfl, rfl, rfl, rfl, trivial⟩ ?_
    refine Runs.rseq ?_
    refine RO.opv (v' := .d (.list (encs _))) (opv_move rfl) rfl ?_
    refine RO.opv (v' := .d (.list (encs _))) (opv_move rfl) rfl ?_
    refine RO.opn (v' := .own 3 _) (O' := [_, _, _, _]) (opv_callN 3 (pairs_fn xs ys hle (by omega)) rfl rfl rfl) rfl rfl ?_
    refine RO.opv (v' := .own 3 _) (opv_assign rfl) rfl ?_
    refine RO.nil ?_
    refine Runs.has [(0, .ref 2 0), (1, .d (encL _)), (8, .d (.bool false)), (9, .d (.int _ _)), (10, .d (.int _ _)), (11, .d (.int _ _)), (12, .own 3 _)] ⟨rfl, rfl, rfl, rfl, rfl, rfl, rfl, trivial⟩ ?_
    refine Runs.rseq ?_
    refine RO.opv (v' := .d (.int _ _)) (opv_assign rfl) rfl ?_
    refine RO.nil ?_
    refine Runs.seq ?_
    refine Runs.label ?_
    refine thenQ_normal ?_
    refine Runs.seq ?_
    refine Runs.block ?_
    refine Runs.loopC (X := MX) (fun x => Sg k x.s ∧ Ps k x.ps ∧ mt (C k) x.m x.s x.lv x.ps = mt (C k) 2000 s (C k).bottom (xs.zip ys) ∧ x.m ≤ 2000 ∧ x.ps.length + 8 * x.m ≤ xs.length + 16000) (fun x => x.m) [(0, .ref 2 0), (1, .d (encL _))] (fun x => [(11, .d (.int .i64 x.lv)), (12, .own 3 x.ver), (13, .d (.int .i64 (2000 - (x.m : Int))))]) [] (fun x => [.buf 88 5 (encCells (x.s).cs) (x.s).v1, .buf 3 1 (ints (x.s).tr) (x.s).v2, .cells [.own 0 (x.s).v1, .own 1 (x.s).v2], .buf 77 8 (encTTs x.ps.reverse) x.ver]) (⟨s, (C k).bottom, 2000, xs.zip ys, 1 + xs.length⟩) ⟨rfl, rfl, trivial⟩ ⟨rfl, rfl, rfl, trivial⟩ rfl ⟨hs0, hp0, rfl, Nat.le_refl _, by show (xs.zip ys).length + 8 * 2000 ≤ _; rw [List.length_zip]; omega⟩ fun x hx => ?_
    obtain ⟨hs, hp, hR, hm, hln⟩ := hx
    refine Runs.seq ?_
    refine Runs.rseq ?_
    refine RO.opv (v' := .own 3 _) (opv_move rfl) rfl ?_
    refine RO.opv (v' := .d (.int _ _)) (opv_len_ott rfl rfl) rfl ?_
    refine RO.opc (opv_bin rfl rfl rfl) (fun h2 => ?_) (fun h2 => ?_)
    · try simp only [decide_eq_true_eq, decide_eq_false_iff_not, beq_iff_eq, beq_eq_false_iff_ne, bne_iff_ne, bne_eq_false_iff_eq, Int.not_lt, Int.not_le, ne_eq, Bool.not_eq_true', Bool.not_eq_false', gt_iff_lt, ge_iff_le] at h2
      obtain ⟨a, b, qs, hps⟩ : ∃ a b qs, x.ps = (a, b) :: qs := by
        rcases hq : x.ps with _ | ⟨⟨a, b⟩, qs⟩
        · rw [hq] at h2; simp at h2
        · exact ⟨a, b, qs, rfl⟩
      have hrl : x.ps.reverse.length = qs.length + 1 := by rw [hps]; simp
      have hln2 : qs.length + 1 + 8 * x.m ≤ xs.length + 16000 := by rw [hps] at hln; exact hln
      have hq : x.ps.reverse[qs.length]? = some (a, b) := by rw [hps]; simp
      obtain ⟨ga, gb⟩ : Gd k a ∧ Gd k b := hp (a, b) (by rw [hps]; simp)
      have wa := hs.wk ga
      have wb := hs.wk gb
      refine RO.nil ?_
      refine Runs.condT rfl ?_
      refine Runs.skip ?_
      refine thenQ_normal ?_
      refine Runs.block ?_
      refine Runs.has [(0, .ref 2 0), (1, .d (encL _)), (11, .d (.int _ _)), (12, .own 3 _), (13, .d (.int _ _))] ⟨rfl, rfl, rfl, rfl, rfl, trivial⟩ ?_
      refine Runs.seq ?_
      refine Runs.rseq ?_
      refine RO.opv (v' := .d (.int _ _)) (opv_move rfl) rfl ?_
      refine RO.opv (v' := .d (.int _ _)) (opv_arith (r := 2001 - (x.m : Int)) rfl rfl (by simp only [binD, if_true]; rw [wrap64 (by omega) (by omega)]; congr 2; omega)) rfl ?_
      refine RO.opv (v' := .d (.int _ _)) (opv_assign rfl) rfl ?_
      refine RO.nil ?_
      refine Runs.has [(0, .ref 2 0), (1, .d (encL _)), (11, .d (.int _ _)), (12, .own 3 _), (13, .d (.int _ _))] ⟨rfl, rfl, rfl, rfl, rfl, trivial⟩ ?_
      refine Runs.rseq ?_
      refine RO.opv (v' := .d (.int _ _)) (opv_move rfl) rfl ?_
      refine RO.opc (opv_bin rfl rfl rfl) (fun h3 => ?_) (fun h3 => ?_)
      · try simp only [decide_eq_true_eq, decide_eq_false_iff_not, beq_iff_eq, beq_eq_false_iff_ne, bne_iff_ne, bne_eq_false_iff_eq, Int.not_lt, Int.not_le, ne_eq, Bool.not_eq_true', Bool.not_eq_false', gt_iff_lt, ge_iff_le] at h3
        have hm0 : x.m = 0 := by omega
        refine RO.nil ?_
        refine Runs.condT rfl ?_
        refine Runs.has [(0, .ref 2 0), (1, .d (encL _)), (11, .d (.int _ _)), (12, .own 3 _), (13, .d (.int _ _))] ⟨rfl, rfl, rfl, rfl, rfl, trivial⟩ ?_
        refine Runs.rseq ?_
        refine RO.opv (v' := .d (.int _ _)) (opv_move rfl) rfl ?_
        refine RO.opv (v' := .d (.bool false)) (opv_assign rfl) rfl ?_
        refine RO.opv (v' := .d (.int _ _)) (opv_assign rfl) rfl ?_
        refine RO.opv (v' := .d (.int _ _)) (opv_assign rfl) rfl ?_
        refine RO.nil ?_
        refine Runs.ret ?_
        refine thenQ_ret ?_
        refine blockQ_ret ?_
        refine thenQ_ret ?_
        refine blockQ_ret ?_
        refine thenQ_ret ?_
        refine scope0Q_ret ?_
        refine EndQ.tmps3 (.inr rfl) rfl rfl rfl rfl 3 (by exact Nat.le_refl _) (by simp) ⟨trivial, trivial, trivial, trivial⟩ ⟨?_, ?_⟩
        · rw [hM, ← hR, hps, hm0]; rfl
        · rw [hM, ← hR, hps, hm0]; rfl
      · try simp only [decide_eq_true_eq, decide_eq_false_iff_not, beq_iff_eq, beq_eq_false_iff_ne, bne_iff_ne, bne_eq_false_iff_eq, Int.not_lt, Int.not_le, ne_eq, Bool.not_eq_true', Bool.not_eq_false', gt_iff_lt, ge_iff_le] at h3
        obtain ⟨m', hm1⟩ : ∃ m', x.m = m' + 1 := ⟨x.m - 1, by omega⟩
        refine RO.nil ?_
        refine Runs.condF rfl ?_
        refine Runs.skip ?_
        refine thenQ_normal ?_
        refine Runs.has [(0, .ref 2 0), (1, .d (encL _)), (11, .d (.int _ _)), (12, .own 3 _), (13, .d (.int _ _))] ⟨rfl, rfl, rfl, rfl, rfl, trivial⟩ ?_
        refine Runs.rseq ?_
        refine RO.opv (v' := .own 3 _) (opv_move rfl) rfl ?_
        refine RO.opv (v' := .own 3 _) (opv_move rfl) rfl ?_
        refine RO.opv (v' := .d (.int _ _)) (opv_len_ott rfl rfl) rfl ?_
        refine RO.opv (v' := .d (.int _ _)) (opv_arith (r := ((qs.length : Nat) : Int)) rfl rfl (by simp only [binD, if_true]; rw [wrap64 (by omega) (by omega)]; congr 2; omega)) rfl ?_
        refine RO.opv (v' := .oel 3 _ _ 0) (opv_index_ott rfl rfl rfl (by omega)) rfl ?_
        refine RO.opv (v' := .d (encTT _)) (opv_load_ottq (q := (a, b)) rfl rfl hq) rfl ?_
        refine RO.opn (v' := .ref 4 0) (O' := [_, _, _, _, _]) (opv_alloc) rfl rfl ?_
        refine RO.op0n (O' := [_, _, _, _, _]) (opv_store_tt rfl rfl rfl rfl) rfl ?_
        refine RO.nil ?_
        refine Runs.has [(0, .ref 2 0), (1, .d (encL _)), (11, .d (.int _ _)), (12, .own 3 _), (13, .d (.int _ _)), (14, .ref 4 0)] ⟨rfl, rfl, rfl, rfl, rfl, rfl, trivial⟩ ?_
        refine Runs.rseq ?_
        refine RO.opv (v' := .own 3 _) (opv_move rfl) rfl ?_
        refine RO.opv (v' := .own 3 _) (opv_move rfl) rfl ?_
        refine RO.opv (v' := .d (.int _ _)) (opv_len_ott rfl rfl) rfl ?_
        refine RO.opv (v' := .d (.int _ _)) (opv_arith (r := ((qs.length : Nat) : Int)) rfl rfl (by simp only [binD, if_true]; rw [wrap64 (by omega) (by omega)]; congr 2; omega)) rfl ?_
        refine RO.opn (v' := .own 3 _) (O' := [_, _, _, _, _]) (opv_cut_ott rfl rfl ⟨_, _, rfl, rfl⟩ (by omega)) rfl rfl ?_
        refine RO.opv (v' := .own 3 _) (opv_assign rfl) rfl ?_
        refine RO.nil ?_
        refine Runs.has [(0, .ref 2 0), (1, .d (encL _)), (11, .d (.int _ _)), (12, .own 3 _), (13, .d (.int _ _)), (14, .ref 4 0)] ⟨rfl, rfl, rfl, rfl, rfl, rfl, trivial⟩ ?_
        refine Runs.seq ?_
        refine Runs.drawn (by kernel_rfl) [] [false, false, false, false, false, false, false, false, false, false] [false, false, false, false, false, false, false, false, false, true] (by decide +kernel) ?_
        refine RD.opv (v' := .ref 2 0) (opv_move rfl) rfl ?_
        refine RD.opv (v' := .ref 4 0) (opv_field_ref rfl rfl) rfl ?_
        refine RD.opv (v' := .d (enc _)) (opv_load_tta rfl rfl) rfl ?_
        refine RD.opq (v' := .d (enc _)) (opv_callP 3 (wk_fn x.s a (hs.ok.ends a)) rfl rfl (Nat.le_of_ble_eq_true rfl) rfl (AV.bds_of_B _ rfl)) rfl rfl ?_
        refine RD.opv (v' := .ref 2 0) (opv_move rfl) rfl ?_
        refine RD.opv (v' := .ref 4 4) (opv_field_ref rfl rfl) rfl ?_
        refine RD.opv (v' := .d (enc _)) (opv_load_ttb rfl rfl) rfl ?_
        refine RD.opq (v' := .d (enc _)) (opv_callP 3 (wk_fn x.s b (hs.ok.ends b)) rfl rfl (Nat.le_of_ble_eq_true rfl) rfl (AV.bds_of_B _ rfl)) rfl rfl ?_
        refine RD.opv (v' := .d (encTT _)) (opv_build_tt rfl rfl rfl) rfl ?_
        refine RD.op0n (O' := [_, _, _, _, _]) (opv_store_tt rfl rfl rfl rfl) rfl trivial ?_
        refine RD.nil ?_
        refine thenQ_normal ?_
        refine Runs.has [(0, .ref 2 0), (1, .d (encL _)), (11, .d (.int _ _)), (12, .own 3 _), (13, .d (.int _ _)), (14, .ref 4 0)] ⟨rfl, rfl, rfl, rfl, rfl, rfl, trivial⟩ ?_
        refine Runs.seq ?_
        refine Runs.rseq ?_
        refine RO.opv (v' := .ref 2 0) (opv_move rfl) rfl ?_
        refine RO.opv (v' := .d (encTT _)) (opv_load_ttw rfl rfl) rfl ?_
        refine RO.opn (O' := [_, _, _, _, _]) (opv_callP 3 (mbind_fn x.s (x.s.wk a) (x.s.wk b) hs.ok wa.bulk wb.bulk) rfl rfl (Nat.le_of_ble_eq_true rfl) rfl (AV.bds_of_B _ rfl)) rfl rfl ?_
        refine RO.opv (opv_move rfl) rfl ?_
        refine RO.opv (v' := .d (.bool _)) (opv_extract rfl rfl) rfl ?_
        refine RO.opv (v' := .d (.bool _)) (opv_extract rfl rfl) rfl ?_
        refine RO.opv (v' := .d (.bool _)) (opv_assign rfl) rfl ?_
        refine RO.opv (v' := .d (.bool _)) (opv_assign rfl) rfl ?_
        refine RO.nil ?_
        refine Runs.has [(0, .ref 2 0), (1, .d (encL _)), (11, .d (.int _ _)), (12, .own 3 _), (13, .d (.int _ _)), (14, .ref 4 0), (15, .d (.bool _)), (16, .d (.bool _))] ⟨rfl, rfl, rfl, rfl, rfl, rfl, rfl, rfl, trivial⟩ ?_
        refine Runs.rseq ?_
        refine RO.opc (opv_move rfl) (fun h4 => ?_) (fun h4 => ?_)
        · try simp only [decide_eq_true_eq, decide_eq_false_iff_not, beq_iff_eq, beq_eq_false_iff_ne, bne_iff_ne, bne_eq_false_iff_eq, Int.not_lt, Int.not_le, ne_eq, Bool.not_eq_true', Bool.not_eq_false', gt_iff_lt, ge_iff_le] at h4
          have hd := h4
          refine RO.nil ?_
          refine Runs.condT rfl ?_
          refine Runs.has [(0, .ref 2 0), (1, .d (encL _)), (11, .d (.int _ _)), (12, .own 3 _), (13, .d (.int _ _)), (14, .ref 4 0), (16, .d (.bool _))] ⟨rfl, rfl, rfl, rfl, rfl, rfl, rfl, trivial⟩ ?_
          refine Runs.seq ?_
          refine Runs.rseq ?_
          refine RO.opv (v' := .d (.bool _)) (opv_move rfl) rfl ?_
          refine RO.opc (opv_not rfl rfl) (fun h5 => ?_) (fun h5 => ?_)
          · try simp only [decide_eq_true_eq, decide_eq_false_iff_not, beq_iff_eq, beq_eq_false_iff_ne, bne_iff_ne, bne_eq_false_iff_eq, Int.not_lt, Int.not_le, ne_eq, Bool.not_eq_true', Bool.not_eq_false', gt_iff_lt, ge_iff_le] at h5
            have hok := h5
            refine RO.nil ?_
            refine Runs.condT rfl ?_
            refine Runs.has [(0, .ref 2 0), (1, .d (encL _)), (11, .d (.int _ _)), (12, .own 3 _), (13, .d (.int _ _)), (14, .ref 4 0)] ⟨rfl, rfl, rfl, rfl, rfl, rfl, trivial⟩ ?_
            refine Runs.rseq ?_
            refine RO.opv (v' := .d (.int _ _)) (opv_move rfl) rfl ?_
            refine RO.opv (v' := .d (.bool false)) (opv_assign rfl) rfl ?_
            refine RO.opv (v' := .d (.int _ _)) (opv_assign rfl) rfl ?_
            refine RO.opv (v' := .d (.int _ _)) (opv_assign rfl) rfl ?_
            refine RO.nil ?_
            refine Runs.ret ?_
            refine thenQ_ret ?_
            refine thenQ_ret ?_
            refine blockQ_ret ?_
            refine thenQ_ret ?_
            refine blockQ_ret ?_
            refine thenQ_ret ?_
            refine scope0Q_ret ?_
            refine EndQ.tmps3 (.inr rfl) rfl rfl rfl rfl 3 (by exact Nat.le_refl _) (by simp) ⟨trivial, trivial, trivial, trivial⟩ ⟨?_, ?_⟩
            · rw [hM, ← hR, hps, hm1, mt_none ((mwk_done hd).trans (by rw [hok]; rfl))]; rfl
            · rw [hM, ← hR, hps, hm1, mt_none ((mwk_done hd).trans (by rw [hok]; rfl))]; rfl
          · try simp only [decide_eq_true_eq, decide_eq_false_iff_not, beq_iff_eq, beq_eq_false_iff_ne, bne_iff_ne, bne_eq_false_iff_eq, Int.not_lt, Int.not_le, ne_eq, Bool.not_eq_true', Bool.not_eq_false', gt_iff_lt, ge_iff_le] at h5
            have hok := h5
            refine RO.nil ?_
            refine Runs.condF rfl ?_
            refine Runs.skip ?_
            refine thenQ_normal ?_
            refine Runs.exit ?_
            refine thenQ_exit ?_
            refine blockQ_here ?_
            refine thenQ_normal ?_
            refine ⟨⟨(mbind x.s (x.s.wk a) (x.s.wk b)).1, x.lv, m', qs, x.ver + 1⟩, 4, (by rw [hK]; exact Nat.le_of_ble_eq_true rfl), ⟨rfl, rfl, trivial⟩, ⟨?_, ?_, ?_, trivial⟩, ?_, ?_, ?_⟩
            · rfl
            · rfl
            · refine int_eq ?_; show 2001 - (x.m : Int) = 2000 - (m' : Int); omega
            · have e : x.ps.reverse.take qs.length = qs.reverse := by rw [hps]; simp
              first
                | (rw [e]; rfl)
                | (rw [e, ← List.reverse_append]; rfl)
            · refine ⟨?_, fun p hp' => hp p (by rw [hps]; simp [hp']), ?_, by show m' ≤ 2000; omega, by show qs.length + 8 * m' ≤ _; omega⟩
              · have hg := mwk_good hk (lv := x.lv) hs wa wb
                rw [mwk_done hd] at hg
                exact hg.1
              · show mt (C k) m' (mbind x.s (x.s.wk a) (x.s.wk b)).1 x.lv qs = _
                rw [← hR, hps, hm1, mt_some (q := []) ((mwk_done hd).trans (by rw [hok]; rfl))]; rfl
            · show m' < x.m; omega
        · try simp only [decide_eq_true_eq, decide_eq_false_iff_not, beq_iff_eq, beq_eq_false_iff_ne, bne_iff_ne, bne_eq_false_iff_eq, Int.not_lt, Int.not_le, ne_eq, Bool.not_eq_true', Bool.not_eq_false', gt_iff_lt, ge_iff_le] at h4
          obtain ⟨hka, hkb, hsame, hmw⟩ := mwk_open (l := C k) (lv := x.lv) h4
          have hk8 := sopen_cases hk wa hka
          have hz8 : (sopen (C k) (x.s.wk a)).1.kids.length ≤ 8 := by
            rcases hk8 with ⟨_, _, e⟩ | ⟨_, _, e⟩
            · rw [e]; exact Nat.zero_le _
            · exact e
          refine RO.nil ?_
          refine Runs.condF rfl ?_
          refine Runs.skip ?_
          refine thenQ_normal ?_
          refine Runs.has [(0, .ref 2 0), (1, .d (encL _)), (11, .d (.int _ _)), (12, .own 3 _), (13, .d (.int _ _)), (14, .ref 4 0)] ⟨rfl, rfl, rfl, rfl, rfl, rfl, trivial⟩ ?_
          refine Runs.rseq ?_
          refine RO.opv (v' := .d (encL _)) (opv_move rfl) rfl ?_
          refine RO.opv (v' := .ref 4 0) (opv_field_ref rfl rfl) rfl ?_
          refine RO.opv (v' := .d (enc _)) (opv_load_tta rfl rfl) rfl ?_
          refine RO.opv (opv_callF (sopen_fn (C k) (C_ok hk) (x.s.wk a) (Nat.le_trans wa.bulk (Nat.le_of_ble_eq_true rfl))) rfl rfl rfl ⟨trivial, trivial, trivial⟩) rfl ?_
          refine RO.opv (opv_move rfl) rfl ?_
          refine RO.opv (v' := .d (enc _)) (opv_extract rfl rfl) rfl ?_
          refine RO.opv (v' := .d (.int _ _)) (opv_extract rfl rfl) rfl ?_
          refine RO.opn (v' := .ref 5 0) (O' := [_, _, _, _, _, _]) (opv_alloc) rfl rfl ?_
          refine RO.op0n (O' := [_, _, _, _, _, _]) (opv_store_term rfl rfl rfl (Nat.le_of_ble_eq_true rfl)) rfl ?_
          refine RO.opv (v' := .d (.int _ _)) (opv_assign rfl) rfl ?_
          refine RO.nil ?_
          refine Runs.has [(0, .ref 2 0), (1, .d (encL _)), (11, .d (.int _ _)), (12, .own 3 _), (13, .d (.int _ _)), (14, .ref 4 0), (17, .ref 5 0), (18, .d (.int _ _))] ⟨rfl, rfl, rfl, rfl, rfl, rfl, rfl, rfl, trivial⟩ ?_
          refine Runs.rseq ?_
          refine RO.opv (v' := .d (encL _)) (opv_move rfl) rfl ?_
          refine RO.opv (v' := .ref 4 4) (opv_field_ref rfl rfl) rfl ?_
          refine RO.opv (v' := .d (enc _)) (opv_load_ttb rfl rfl) rfl ?_
          refine RO.opv (opv_callF (sopen_fn (C k) (C_ok hk) (x.s.wk b) (Nat.le_trans wb.bulk (Nat.le_of_ble_eq_true rfl))) rfl rfl rfl ⟨trivial, trivial, trivial⟩) rfl ?_
          refine RO.opv (opv_move rfl) rfl ?_
          refine RO.opv (v' := .d (enc _)) (opv_extract rfl rfl) rfl ?_
          refine RO.opv (v' := .d (.int _ _)) (opv_extract rfl rfl) rfl ?_
          refine RO.opn (v' := .ref 6 0) (O' := [_, _, _, _, _, _, _]) (opv_alloc) rfl rfl ?_
          refine RO.op0n (O' := [_, _, _, _, _, _, _]) (opv_store_term rfl rfl rfl (Nat.le_of_ble_eq_true rfl)) rfl ?_
          refine RO.opv (v' := .d (.int _ _)) (opv_assign rfl) rfl ?_
          refine RO.nil ?_
          refine Runs.has [(0, .ref 2 0), (1, .d (encL _)), (11, .d (.int _ _)), (12, .own 3 _), (13, .d (.int _ _)), (17, .ref 5 0), (18, .d (.int _ _)), (19, .ref 6 0), (20, .d (.int _ _))] ⟨rfl, rfl, rfl, rfl, rfl, rfl, rfl, rfl, rfl, trivial⟩ ?_
          refine Runs.rseq ?_
          refine RO.opv (v' := .d (encL _)) (opv_move rfl) rfl ?_
          refine RO.opv (v' := .d (.int _ _)) (opv_move rfl) rfl ?_
          refine RO.opv (v' := .d (encL _)) (opv_move rfl) rfl ?_
          refine RO.opv (v' := .d (.int _ _)) (opv_move rfl) rfl ?_
          refine RO.opv (v' := .d (.int _ _)) (opv_move rfl) rfl ?_
          refine RO.opv (v' := .d (.int _ _)) (opv_callF (ljoin_fn (C k) (C_ok hk) _ _) rfl rfl rfl trivial) rfl ?_
          refine RO.opv (v' := .d (.int _ _)) (opv_callF (ljoin_fn (C k) (C_ok hk) _ _) rfl rfl rfl trivial) rfl ?_
          refine RO.opv (v' := .d (.int _ _)) (opv_assign rfl) rfl ?_
          refine RO.nil ?_
          refine Runs.block ?_
          refine Runs.has [(0, .ref 2 0), (1, .d (encL _)), (11, .d (.int _ _)), (12, .own 3 _), (13, .d (.int _ _)), (17, .ref 5 0), (19, .ref 6 0)] ⟨rfl, rfl, rfl, rfl, rfl, rfl, rfl, trivial⟩ ?_
          refine Runs.rseq ?_
          refine RO.opv (v' := .ref 5 0) (opv_field_ref rfl rfl) rfl ?_
          refine RO.opv (v' := .d (.int _ _)) (opv_load_ref rfl rfl rfl) rfl ?_
          refine RO.opv (v' := .d (.bool _)) (opv_bin rfl rfl rfl) rfl ?_
          refine RO.opc (opv_move rfl) (fun h6 => ?_) (fun h6 => ?_)
          · try simp only [decide_eq_true_eq, decide_eq_false_iff_not, beq_iff_eq, beq_eq_false_iff_ne, bne_iff_ne, bne_eq_false_iff_eq, Int.not_lt, Int.not_le, ne_eq, Bool.not_eq_true', Bool.not_eq_false', gt_iff_lt, ge_iff_le] at h6
            have hA2 := h6
            refine RO.opgv (v' := .ref 6 0) rfl (opv_field_ref rfl rfl) rfl ?_
            refine RO.opgv (v' := .d (.int _ _)) rfl (opv_load_ref rfl rfl rfl) rfl ?_
            refine RO.opgv (v' := .d (.bool _)) rfl (opv_bin rfl rfl rfl) rfl ?_
            refine RO.opv (v' := .d (.bool _)) (opv_pick rfl rfl) rfl ?_
            refine RO.opc (opv_move rfl) (fun h7 => ?_) (fun h7 => ?_)
            · try simp only [decide_eq_true_eq, decide_eq_false_iff_not, beq_iff_eq, beq_eq_false_iff_ne, bne_iff_ne, bne_eq_false_iff_eq, Int.not_lt, Int.not_le, ne_eq, Bool.not_eq_true', Bool.not_eq_false', gt_iff_lt, ge_iff_le] at h7
              have hB2 := h7
              refine RO.opgv (v' := .ref 5 1) rfl (opv_field_ref rfl rfl) rfl ?_
              refine RO.opgv (v' := .d (.int _ _)) rfl (opv_load_ref rfl rfl rfl) rfl ?_
              refine RO.opgv (v' := .ref 6 1) rfl (opv_field_ref rfl rfl) rfl ?_
              refine RO.opgv (v' := .d (.int _ _)) rfl (opv_load_ref rfl rfl rfl) rfl ?_
              refine RO.opgv (v' := .d (.bool _)) rfl (opv_bin rfl rfl rfl) rfl ?_
              refine RO.opv (v' := .d (.bool _)) (opv_pick rfl rfl) rfl ?_
              refine RO.opc (opv_assign rfl) (fun h8 => ?_) (fun h8 => ?_)
              · try simp only [decide_eq_true_eq, decide_eq_false_iff_not, beq_iff_eq, beq_eq_false_iff_ne, bne_iff_ne, bne_eq_false_iff_eq, Int.not_lt, Int.not_le, ne_eq, Bool.not_eq_true', Bool.not_eq_false', gt_iff_lt, ge_iff_le] at h8
                have hN := h8
                refine RO.nil ?_
                refine Runs.condT rfl ?_
                refine Runs.skip ?_
                refine blockQ_normal ?_
                refine blockQ_normal ?_
                refine thenQ_normal ?_
                refine ⟨⟨(mbind x.s (x.s.wk a) (x.s.wk b)).1, ((C k).join x.lv ((C k).join (sopen (C k) (x.s.wk a)).2 (sopen (C k) (x.s.wk b)).2)), m', qs, x.ver + 1⟩, 4, (by rw [hK]; exact Nat.le_of_ble_eq_true rfl), ⟨rfl, rfl, trivial⟩, ⟨?_, ?_, ?_, trivial⟩, ?_, ?_, ?_⟩
                · rfl
                · rfl
                · refine int_eq ?_; show 2001 - (x.m : Int) = 2000 - (m' : Int); omega
                · have e : x.ps.reverse.take qs.length = qs.reverse := by rw [hps]; simp
                  first
                    | (rw [e]; rfl)
                    | (rw [e, ← List.reverse_append]; rfl)
                · refine ⟨by show Sg k (mbind x.s (x.s.wk a) (x.s.wk b)).1; rw [hsame]; exact hs, fun p hp' => hp p (by rw [hps]; simp [hp']), ?_, by show m' ≤ 2000; omega, by show qs.length + 8 * m' ≤ _; omega⟩
                  have hmeet : meetT (sopen (C k) (x.s.wk a)).1 (sopen (C k) (x.s.wk b)).1 = some [] := (by unfold meetT; rw [if_pos ⟨hA2, hB2, hN⟩])
                  show mt (C k) m' (mbind x.s (x.s.wk a) (x.s.wk b)).1 ((C k).join x.lv ((C k).join (sopen (C k) (x.s.wk a)).2 (sopen (C k) (x.s.wk b)).2)) qs = _
                  rw [hsame, ← hR, hps, hm1, mt_some (hmw.trans (by rw [hmeet]))]; rfl
                · show m' < x.m; omega
              · try simp only [decide_eq_true_eq, decide_eq_false_iff_not, beq_iff_eq, beq_eq_false_iff_ne, bne_iff_ne, bne_eq_false_iff_eq, Int.not_lt, Int.not_le, ne_eq, Bool.not_eq_true', Bool.not_eq_false', gt_iff_lt, ge_iff_le] at h8
                have hN := h8
                refine RO.nil ?_
                refine Runs.condF rfl ?_
                refine Runs.has [(0, .ref 2 0), (1, .d (encL _)), (11, .d (.int _ _)), (12, .own 3 _), (13, .d (.int _ _)), (17, .ref 5 0), (19, .ref 6 0)] ⟨rfl, rfl, rfl, rfl, rfl, rfl, rfl, trivial⟩ ?_
                refine Runs.rseq ?_
                refine RO.opv (v' := .ref 5 0) (opv_field_ref rfl rfl) rfl ?_
                refine RO.opv (v' := .d (.int _ _)) (opv_load_ref rfl rfl rfl) rfl ?_
                refine RO.opv (v' := .d (.bool _)) (opv_bin rfl rfl rfl) rfl ?_
                refine RO.opc (opv_move rfl) (fun h9 => ?_) (fun h9 => ?_)
                · try simp only [decide_eq_true_eq, decide_eq_false_iff_not, beq_iff_eq, beq_eq_false_iff_ne, bne_iff_ne, bne_eq_false_iff_eq, Int.not_lt, Int.not_le, ne_eq, Bool.not_eq_true', Bool.not_eq_false', gt_iff_lt, ge_iff_le] at h9
                  have hA3 := h9
                  refine RO.opgv (v' := .ref 6 0) rfl (opv_field_ref rfl rfl) rfl ?_
                  refine RO.opgv (v' := .d (.int _ _)) rfl (opv_load_ref rfl rfl rfl) rfl ?_
                  refine RO.opgv (v' := .d (.bool _)) rfl (opv_bin rfl rfl rfl) rfl ?_
                  refine RO.opv (v' := .d (.bool _)) (opv_pick rfl rfl) rfl ?_
                  refine RO.opc (opv_move rfl) (fun h10 => ?_) (fun h10 => ?_)
                  · try simp only [decide_eq_true_eq, decide_eq_false_iff_not, beq_iff_eq, beq_eq_false_iff_ne, bne_iff_ne, bne_eq_false_iff_eq, Int.not_lt, Int.not_le, ne_eq, Bool.not_eq_true', Bool.not_eq_false', gt_iff_lt, ge_iff_le] at h10
                    have hB3 := h10
                    refine RO.opgv (v' := .ref 5 2) rfl (opv_field_ref rfl rfl) rfl ?_
                    refine RO.opgv (v' := .d (.str _)) rfl (opv_load_ref rfl rfl rfl) rfl ?_
                    refine RO.opgv (v' := .ref 6 2) rfl (opv_field_ref rfl rfl) rfl ?_
                    refine RO.opgv (v' := .d (.str _)) rfl (opv_load_ref rfl rfl rfl) rfl ?_
                    refine RO.opgv (v' := .d (.bool _)) rfl (opv_bin rfl rfl rfl) rfl ?_
                    refine RO.opv (v' := .d (.bool _)) (opv_pick rfl rfl) rfl ?_
                    refine RO.opc (opv_move rfl) (fun h11 => ?_) (fun h11 => ?_)
                    · try simp only [decide_eq_true_eq, decide_eq_false_iff_not, beq_iff_eq, beq_eq_false_iff_ne, bne_iff_ne, bne_eq_false_iff_eq, Int.not_lt, Int.not_le, ne_eq, Bool.not_eq_true', Bool.not_eq_false', gt_iff_lt, ge_iff_le] at h11
                      have hSn : (sopen (C k) (x.s.wk a)).1.name = (sopen (C k) (x.s.wk b)).1.name := ByteArray.ext_list h11
                      refine RO.opgv (v' := .ref 5 3) rfl (opv_field_ref rfl rfl) rfl ?_
                      refine RO.opgv (v' := .d (.list (encs _))) rfl (opv_load_ref rfl rfl rfl) rfl ?_
                      refine RO.opgv (v' := .d (.int _ _)) rfl (opv_len_terms rfl) rfl ?_
                      refine RO.opgv (v' := .ref 6 3) rfl (opv_field_ref rfl rfl) rfl ?_
                      refine RO.opgv (v' := .d (.list (encs _))) rfl (opv_load_ref rfl rfl rfl) rfl ?_
                      refine RO.opgv (v' := .d (.int _ _)) rfl (opv_len_terms rfl) rfl ?_
                      refine RO.opgv (v' := .d (.bool _)) rfl (opv_bin rfl rfl rfl) rfl ?_
                      refine RO.opv (v' := .d (.bool _)) (opv_pick rfl rfl) rfl ?_
                      refine RO.opc (opv_assign rfl) (fun h12 => ?_) (fun h12 => ?_)
                      · try simp only [decide_eq_true_eq, decide_eq_false_iff_not, beq_iff_eq, beq_eq_false_iff_ne, bne_iff_ne, bne_eq_false_iff_eq, Int.not_lt, Int.not_le, ne_eq, Bool.not_eq_true', Bool.not_eq_false', gt_iff_lt, ge_iff_le] at h12
                        have hLn : (sopen (C k) (x.s.wk a)).1.kids.length = (sopen (C k) (x.s.wk b)).1.kids.length := by omega
                        refine RO.nil ?_
                        refine Runs.condT rfl ?_
                        refine Runs.has [(0, .ref 2 0), (1, .d (encL _)), (11, .d (.int _ _)), (12, .own 3 _), (13, .d (.int _ _)), (17, .ref 5 0), (19, .ref 6 0)] ⟨rfl, rfl, rfl, rfl, rfl, rfl, rfl, trivial⟩ ?_
                        refine Runs.region ?_
                        refine RO.opv (v' := .own 3 _) (opv_move rfl) rfl ?_
                        refine RO.opv (v' := .ref 5 3) (opv_field_ref rfl rfl) rfl ?_
                        refine RO.opv (v' := .d (.list (encs _))) (opv_load_ref rfl rfl rfl) rfl ?_
                        refine RO.opv (v' := .ref 6 3) (opv_field_ref rfl rfl) rfl ?_
                        refine RO.opv (v' := .d (.list (encs _))) (opv_load_ref rfl rfl rfl) rfl ?_
                        refine RO.opv (v' := .d (.list (encTTs _))) (opv_callF (pairsD_fn (sopen (C k) (x.s.wk a)).1.kids (sopen (C k) (x.s.wk b)).1.kids hLn (by omega)) rfl rfl rfl trivial) rfl ?_
                        refine RO.opn (v' := .own 3 _) (O' := [_, _, _, _, _, _, _]) (opv_append_ott rfl rfl rfl (by rw [List.length_take, List.length_reverse, List.length_reverse, List.length_zip]; omega)) rfl rfl ?_
                        refine RO.opv (v' := .own 3 _) (opv_assign rfl) rfl ?_
                        refine RO.nil ?_
                        refine blockQ_normal ?_
                        refine blockQ_normal ?_
                        refine thenQ_normal ?_
                        refine ⟨⟨(mbind x.s (x.s.wk a) (x.s.wk b)).1, ((C k).join x.lv ((C k).join (sopen (C k) (x.s.wk a)).2 (sopen (C k) (x.s.wk b)).2)), m', (sopen (C k) (x.s.wk a)).1.kids.zip (sopen (C k) (x.s.wk b)).1.kids ++ qs, x.ver + 1 + 1⟩, 4, (by rw [hK]; exact Nat.le_of_ble_eq_true rfl), ⟨rfl, rfl, trivial⟩, ⟨?_, ?_, ?_, trivial⟩, ?_, ?_, ?_⟩
                        · rfl
                        · rfl
                        · refine int_eq ?_; show 2001 - (x.m : Int) = 2000 - (m' : Int); omega
                        · have e : x.ps.reverse.take qs.length = qs.reverse := by rw [hps]; simp
                          first
                            | (rw [e]; rfl)
                            | (rw [e, ← List.reverse_append]; rfl)
                        · have hmeet : meetT (sopen (C k) (x.s.wk a)).1 (sopen (C k) (x.s.wk b)).1 = some ((sopen (C k) (x.s.wk a)).1.kids.zip (sopen (C k) (x.s.wk b)).1.kids) := (by unfold meetT; rw [if_neg (by rintro ⟨e1, e2, e3⟩; first | exact hA2 e1 | exact hB2 e2 | exact hN e3), if_pos ⟨hA3, hB3, hSn, hLn⟩])
                          have hzl : ((sopen (C k) (x.s.wk a)).1.kids.zip (sopen (C k) (x.s.wk b)).1.kids).length ≤ 8 := by rw [List.length_zip]; omega
                          refine ⟨by show Sg k (mbind x.s (x.s.wk a) (x.s.wk b)).1; rw [hsame]; exact hs, fun p hp' => ?_, ?_, by show m' ≤ 2000; omega, by show ((sopen (C k) (x.s.wk a)).1.kids.zip (sopen (C k) (x.s.wk b)).1.kids ++ qs).length + 8 * m' ≤ _; rw [List.length_append]; omega⟩
                          · rcases List.mem_append.1 hp' with hin | hin
                            · exact ⟨gd_sopen hk wa (List.of_mem_zip hin).1, gd_sopen hk wb (List.of_mem_zip hin).2⟩
                            · exact hp p (by rw [hps]; simp [hin])
                          · show mt (C k) m' (mbind x.s (x.s.wk a) (x.s.wk b)).1 ((C k).join x.lv ((C k).join (sopen (C k) (x.s.wk a)).2 (sopen (C k) (x.s.wk b)).2)) ((sopen (C k) (x.s.wk a)).1.kids.zip (sopen (C k) (x.s.wk b)).1.kids ++ qs) = _
                            rw [hsame, ← hR, hps, hm1, mt_some (hmw.trans (by rw [hmeet]))]
                        · show m' < x.m; omega
                      · try simp only [decide_eq_true_eq, decide_eq_false_iff_not, beq_iff_eq, beq_eq_false_iff_ne, bne_iff_ne, bne_eq_false_iff_eq, Int.not_lt, Int.not_le, ne_eq, Bool.not_eq_true', Bool.not_eq_false', gt_iff_lt, ge_iff_le] at h12
                        have hLn : ¬ (sopen (C k) (x.s.wk a)).1.kids.length = (sopen (C k) (x.s.wk b)).1.kids.length := by omega
                        refine RO.nil ?_
                        refine Runs.condF rfl ?_
                        refine Runs.has [(0, .ref 2 0), (1, .d (encL _)), (11, .d (.int _ _)), (12, .own 3 _), (13, .d (.int _ _))] ⟨rfl, rfl, rfl, rfl, rfl, trivial⟩ ?_
                        refine Runs.rseq ?_
                        refine RO.opv (v' := .d (.int _ _)) (opv_move rfl) rfl ?_
                        refine RO.opv (v' := .d (.bool false)) (opv_assign rfl) rfl ?_
                        refine RO.opv (v' := .d (.int _ _)) (opv_assign rfl) rfl ?_
                        refine RO.opv (v' := .d (.int _ _)) (opv_assign rfl) rfl ?_
                        refine RO.nil ?_
                        refine Runs.ret ?_
                        refine blockQ_ret ?_
                        refine blockQ_ret ?_
                        refine thenQ_ret ?_
                        refine blockQ_ret ?_
                        refine thenQ_ret ?_
                        refine scope0Q_ret ?_
                        refine EndQ.tmps3 (.inr rfl) rfl rfl rfl rfl 3 (by exact Nat.le_refl _) (by simp) ⟨trivial, trivial, trivial, trivial⟩ ⟨?_, ?_⟩
                        · first
                            | (rw [hM, ← hR, hps, mt_nil]; done)
                            | (rw [hM, ← hR, hps, mt_nil]; rfl)
                            | (have hnone : meetT (sopen (C k) (x.s.wk a)).1 (sopen (C k) (x.s.wk b)).1 = none := (by unfold meetT; rw [if_neg (by rintro ⟨e1, e2, e3⟩; first | exact hA2 e1 | exact hB2 e2 | exact hN e3), if_neg (by rintro ⟨e1, e2, e3, e4⟩; first | exact hA3 e1 | exact hB3 e2 | exact hSn (by rw [e3]) | exact hLn (by rw [e4]))])
                               rw [hM, ← hR, hps, hm1, mt_none (hmw.trans (by rw [hnone]))]; done)
                            | (have hnone : meetT (sopen (C k) (x.s.wk a)).1 (sopen (C k) (x.s.wk b)).1 = none := (by unfold meetT; rw [if_neg (by rintro ⟨e1, e2, e3⟩; first | exact hA2 e1 | exact hB2 e2 | exact hN e3), if_neg (by rintro ⟨e1, e2, e3, e4⟩; first | exact hA3 e1 | exact hB3 e2 | exact hSn (by rw [e3]) | exact hLn (by rw [e4]))])
                               rw [hM, ← hR, hps, hm1, mt_none (hmw.trans (by rw [hnone]))]; first | rfl | (rw [hsame]; rfl))
                        · first
                            | (rw [hM, ← hR, hps, mt_nil]; done)
                            | (rw [hM, ← hR, hps, mt_nil]; rfl)
                            | (have hnone : meetT (sopen (C k) (x.s.wk a)).1 (sopen (C k) (x.s.wk b)).1 = none := (by unfold meetT; rw [if_neg (by rintro ⟨e1, e2, e3⟩; first | exact hA2 e1 | exact hB2 e2 | exact hN e3), if_neg (by rintro ⟨e1, e2, e3, e4⟩; first | exact hA3 e1 | exact hB3 e2 | exact hSn (by rw [e3]) | exact hLn (by rw [e4]))])
                               rw [hM, ← hR, hps, hm1, mt_none (hmw.trans (by rw [hnone]))]; done)
                            | (have hnone : meetT (sopen (C k) (x.s.wk a)).1 (sopen (C k) (x.s.wk b)).1 = none := (by unfold meetT; rw [if_neg (by rintro ⟨e1, e2, e3⟩; first | exact hA2 e1 | exact hB2 e2 | exact hN e3), if_neg (by rintro ⟨e1, e2, e3, e4⟩; first | exact hA3 e1 | exact hB3 e2 | exact hSn (by rw [e3]) | exact hLn (by rw [e4]))])
                               rw [hM, ← hR, hps, hm1, mt_none (hmw.trans (by rw [hnone]))]; first | rfl | (rw [hsame]; rfl))
                    · try simp only [decide_eq_true_eq, decide_eq_false_iff_not, beq_iff_eq, beq_eq_false_iff_ne, bne_iff_ne, bne_eq_false_iff_eq, Int.not_lt, Int.not_le, ne_eq, Bool.not_eq_true', Bool.not_eq_false', gt_iff_lt, ge_iff_le] at h11
                      have hSn := h11
                      refine RO.off rfl ?_
                      refine RO.off rfl ?_
                      refine RO.off rfl ?_
                      refine RO.off rfl ?_
                      refine RO.off rfl ?_
                      refine RO.off rfl ?_
                      refine RO.off rfl ?_
                      refine RO.opv (v' := .d (.bool false)) (opv_pick rfl rfl) rfl ?_
                      refine RO.opv (v' := .d (.bool false)) (opv_assign rfl) rfl ?_
                      refine RO.nil ?_
                      refine Runs.condF rfl ?_
                      refine Runs.has [(0, .ref 2 0), (1, .d (encL _)), (11, .d (.int _ _)), (12, .own 3 _), (13, .d (.int _ _))] ⟨rfl, rfl, rfl, rfl, rfl, trivial⟩ ?_
                      refine Runs.rseq ?_
                      refine RO.opv (v' := .d (.int _ _)) (opv_move rfl) rfl ?_
                      refine RO.opv (v' := .d (.bool false)) (opv_assign rfl) rfl ?_
                      refine RO.opv (v' := .d (.int _ _)) (opv_assign rfl) rfl ?_
                      refine RO.opv (v' := .d (.int _ _)) (opv_assign rfl) rfl ?_
                      refine RO.nil ?_
                      refine Runs.ret ?_
                      refine blockQ_ret ?_
                      refine blockQ_ret ?_
                      refine thenQ_ret ?_
                      refine blockQ_ret ?_
                      refine thenQ_ret ?_
                      refine scope0Q_ret ?_
                      refine EndQ.tmps3 (.inr rfl) rfl rfl rfl rfl 3 (by exact Nat.le_refl _) (by simp) ⟨trivial, trivial, trivial, trivial⟩ ⟨?_, ?_⟩
                      · first
                          | (rw [hM, ← hR, hps, mt_nil]; done)
                          | (rw [hM, ← hR, hps, mt_nil]; rfl)
                          | (have hnone : meetT (sopen (C k) (x.s.wk a)).1 (sopen (C k) (x.s.wk b)).1 = none := (by unfold meetT; rw [if_neg (by rintro ⟨e1, e2, e3⟩; first | exact hA2 e1 | exact hB2 e2 | exact hN e3), if_neg (by rintro ⟨e1, e2, e3, e4⟩; first | exact hA3 e1 | exact hB3 e2 | exact hSn (by rw [e3]) | exact hLn (by rw [e4]))])
                             rw [hM, ← hR, hps, hm1, mt_none (hmw.trans (by rw [hnone]))]; done)
                          | (have hnone : meetT (sopen (C k) (x.s.wk a)).1 (sopen (C k) (x.s.wk b)).1 = none := (by unfold meetT; rw [if_neg (by rintro ⟨e1, e2, e3⟩; first | exact hA2 e1 | exact hB2 e2 | exact hN e3), if_neg (by rintro ⟨e1, e2, e3, e4⟩; first | exact hA3 e1 | exact hB3 e2 | exact hSn (by rw [e3]) | exact hLn (by rw [e4]))])
                             rw [hM, ← hR, hps, hm1, mt_none (hmw.trans (by rw [hnone]))]; first | rfl | (rw [hsame]; rfl))
                      · first
                          | (rw [hM, ← hR, hps, mt_nil]; done)
                          | (rw [hM, ← hR, hps, mt_nil]; rfl)
                          | (have hnone : meetT (sopen (C k) (x.s.wk a)).1 (sopen (C k) (x.s.wk b)).1 = none := (by unfold meetT; rw [if_neg (by rintro ⟨e1, e2, e3⟩; first | exact hA2 e1 | exact hB2 e2 | exact hN e3), if_neg (by rintro ⟨e1, e2, e3, e4⟩; first | exact hA3 e1 | exact hB3 e2 | exact hSn (by rw [e3]) | exact hLn (by rw [e4]))])
                             rw [hM, ← hR, hps, hm1, mt_none (hmw.trans (by rw [hnone]))]; done)
                          | (have hnone : meetT (sopen (C k) (x.s.wk a)).1 (sopen (C k) (x.s.wk b)).1 = none := (by unfold meetT; rw [if_neg (by rintro ⟨e1, e2, e3⟩; first | exact hA2 e1 | exact hB2 e2 | exact hN e3), if_neg (by rintro ⟨e1, e2, e3, e4⟩; first | exact hA3 e1 | exact hB3 e2 | exact hSn (by rw [e3]) | exact hLn (by rw [e4]))])
                             rw [hM, ← hR, hps, hm1, mt_none (hmw.trans (by rw [hnone]))]; first | rfl | (rw [hsame]; rfl))
                  · try simp only [decide_eq_true_eq, decide_eq_false_iff_not, beq_iff_eq, beq_eq_false_iff_ne, bne_iff_ne, bne_eq_false_iff_eq, Int.not_lt, Int.not_le, ne_eq, Bool.not_eq_true', Bool.not_eq_false', gt_iff_lt, ge_iff_le] at h10
                    have hB3 := h10
                    refine RO.off rfl ?_
                    refine RO.off rfl ?_
                    refine RO.off rfl ?_
                    refine RO.off rfl ?_
                    refine RO.off rfl ?_
                    refine RO.opv (v' := .d (.bool false)) (opv_pick rfl rfl) rfl ?_
                    refine RO.opv (v' := .d (.bool false)) (opv_move rfl) rfl ?_
                    refine RO.off rfl ?_
                    refine RO.off rfl ?_
                    refine RO.off rfl ?_
                    refine RO.off rfl ?_
                    refine RO.off rfl ?_
                    refine RO.off rfl ?_
                    refine RO.off rfl ?_
                    refine RO.opv (v' := .d (.bool false)) (opv_pick rfl rfl) rfl ?_
                    refine RO.opv (v' := .d (.bool false)) (opv_assign rfl) rfl ?_
                    refine RO.nil ?_
                    refine Runs.condF rfl ?_
                    refine Runs.has [(0, .ref 2 0), (1, .d (encL _)), (11, .d (.int _ _)), (12, .own 3 _), (13, .d (.int _ _))] ⟨rfl, rfl, rfl, rfl, rfl, trivial⟩ ?_
                    refine Runs.rseq ?_
                    refine RO.opv (v' := .d (.int _ _)) (opv_move rfl) rfl ?_
                    refine RO.opv (v' := .d (.bool false)) (opv_assign rfl) rfl ?_
                    refine RO.opv (v' := .d (.int _ _)) (opv_assign rfl) rfl ?_
                    refine RO.opv (v' := .d (.int _ _)) (opv_assign rfl) rfl ?_
                    refine RO.nil ?_
                    refine Runs.ret ?_
                    refine blockQ_ret ?_
                    refine blockQ_ret ?_
                    refine thenQ_ret ?_
                    refine blockQ_ret ?_
                    refine thenQ_ret ?_
                    refine scope0Q_ret ?_
                    refine EndQ.tmps3 (.inr rfl) rfl rfl rfl rfl 3 (by exact Nat.le_refl _) (by simp) ⟨trivial, trivial, trivial, trivial⟩ ⟨?_, ?_⟩
                    · first
                        | (rw [hM, ← hR, hps, mt_nil]; done)
                        | (rw [hM, ← hR, hps, mt_nil]; rfl)
                        | (have hnone : meetT (sopen (C k) (x.s.wk a)).1 (sopen (C k) (x.s.wk b)).1 = none := (by unfold meetT; rw [if_neg (by rintro ⟨e1, e2, e3⟩; first | exact hA2 e1 | exact hB2 e2 | exact hN e3), if_neg (by rintro ⟨e1, e2, e3, e4⟩; first | exact hA3 e1 | exact hB3 e2 | exact hSn (by rw [e3]) | exact hLn (by rw [e4]))])
                           rw [hM, ← hR, hps, hm1, mt_none (hmw.trans (by rw [hnone]))]; done)
                        | (have hnone : meetT (sopen (C k) (x.s.wk a)).1 (sopen (C k) (x.s.wk b)).1 = none := (by unfold meetT; rw [if_neg (by rintro ⟨e1, e2, e3⟩; first | exact hA2 e1 | exact hB2 e2 | exact hN e3), if_neg (by rintro ⟨e1, e2, e3, e4⟩; first | exact hA3 e1 | exact hB3 e2 | exact hSn (by rw [e3]) | exact hLn (by rw [e4]))])
                           rw [hM, ← hR, hps, hm1, mt_none (hmw.trans (by rw [hnone]))]; first | rfl | (rw [hsame]; rfl))
                    · first
                        | (rw [hM, ← hR, hps, mt_nil]; done)
                        | (rw [hM, ← hR, hps, mt_nil]; rfl)
                        | (have hnone : meetT (sopen (C k) (x.s.wk a)).1 (sopen (C k) (x.s.wk b)).1 = none := (by unfold meetT; rw [if_neg (by rintro ⟨e1, e2, e3⟩; first | exact hA2 e1 | exact hB2 e2 | exact hN e3), if_neg (by rintro ⟨e1, e2, e3, e4⟩; first | exact hA3 e1 | exact hB3 e2 | exact hSn (by rw [e3]) | exact hLn (by rw [e4]))])
                           rw [hM, ← hR, hps, hm1, mt_none (hmw.trans (by rw [hnone]))]; done)
                        | (have hnone : meetT (sopen (C k) (x.s.wk a)).1 (sopen (C k) (x.s.wk b)).1 = none := (by unfold meetT; rw [if_neg (by rintro ⟨e1, e2, e3⟩; first | exact hA2 e1 | exact hB2 e2 | exact hN e3), if_neg (by rintro ⟨e1, e2, e3, e4⟩; first | exact hA3 e1 | exact hB3 e2 | exact hSn (by rw [e3]) | exact hLn (by rw [e4]))])
                           rw [hM, ← hR, hps, hm1, mt_none (hmw.trans (by rw [hnone]))]; first | rfl | (rw [hsame]; rfl))
                · try simp only [decide_eq_true_eq, decide_eq_false_iff_not, beq_iff_eq, beq_eq_false_iff_ne, bne_iff_ne, bne_eq_false_iff_eq, Int.not_lt, Int.not_le, ne_eq, Bool.not_eq_true', Bool.not_eq_false', gt_iff_lt, ge_iff_le] at h9
                  have hA3 := h9
                  refine RO.off rfl ?_
                  refine RO.off rfl ?_
                  refine RO.off rfl ?_
                  refine RO.opv (v' := .d (.bool false)) (opv_pick rfl rfl) rfl ?_
                  refine RO.opv (v' := .d (.bool false)) (opv_move rfl) rfl ?_
                  refine RO.off rfl ?_
                  refine RO.off rfl ?_
                  refine RO.off rfl ?_
                  refine RO.off rfl ?_
                  refine RO.off rfl ?_
                  refine RO.opv (v' := .d (.bool false)) (opv_pick rfl rfl) rfl ?_
                  refine RO.opv (v' := .d (.bool false)) (opv_move rfl) rfl ?_
                  refine RO.off rfl ?_
                  refine RO.off rfl ?_
                  refine RO.off rfl ?_
                  refine RO.off rfl ?_
                  refine RO.off rfl ?_
                  refine RO.off rfl ?_
                  refine RO.off rfl ?_
                  refine RO.opv (v' := .d (.bool false)) (opv_pick rfl rfl) rfl ?_
                  refine RO.opv (v' := .d (.bool false)) (opv_assign rfl) rfl ?_
                  refine RO.nil ?_
                  refine Runs.condF rfl ?_
                  refine Runs.has [(0, .ref 2 0), (1, .d (encL _)), (11, .d (.int _ _)), (12, .own 3 _), (13, .d (.int _ _))] ⟨rfl, rfl, rfl, rfl, rfl, trivial⟩ ?_
                  refine Runs.rseq ?_
                  refine RO.opv (v' := .d (.int _ _)) (opv_move rfl) rfl ?_
                  refine RO.opv (v' := .d (.bool false)) (opv_assign rfl) rfl ?_
                  refine RO.opv (v' := .d (.int _ _)) (opv_assign rfl) rfl ?_
                  refine RO.opv (v' := .d (.int _ _)) (opv_assign rfl) rfl ?_
                  refine RO.nil ?_
                  refine Runs.ret ?_
                  refine blockQ_ret ?_
                  refine blockQ_ret ?_
                  refine thenQ_ret ?_
                  refine blockQ_ret ?_
                  refine thenQ_ret ?_
                  refine scope0Q_ret ?_
                  refine EndQ.tmps3 (.inr rfl) rfl rfl rfl rfl 3 (by exact Nat.le_refl _) (by simp) ⟨trivial, trivial, trivial, trivial⟩ ⟨?_, ?_⟩
                  · first
                      | (rw [hM, ← hR, hps, mt_nil]; done)
                      | (rw [hM, ← hR, hps, mt_nil]; rfl)
                      | (have hnone : meetT (sopen (C k) (x.s.wk a)).1 (sopen (C k) (x.s.wk b)).1 = none := (by unfold meetT; rw [if_neg (by rintro ⟨e1, e2, e3⟩; first | exact hA2 e1 | exact hB2 e2 | exact hN e3), if_neg (by rintro ⟨e1, e2, e3, e4⟩; first | exact hA3 e1 | exact hB3 e2 | exact hSn (by rw [e3]) | exact hLn (by rw [e4]))])
                         rw [hM, ← hR, hps, hm1, mt_none (hmw.trans (by rw [hnone]))]; done)
                      | (have hnone : meetT (sopen (C k) (x.s.wk a)).1 (sopen (C k) (x.s.wk b)).1 = none := (by unfold meetT; rw [if_neg (by rintro ⟨e1, e2, e3⟩; first | exact hA2 e1 | exact hB2 e2 | exact hN e3), if_neg (by rintro ⟨e1, e2, e3, e4⟩; first | exact hA3 e1 | exact hB3 e2 | exact hSn (by rw [e3]) | exact hLn (by rw [e4]))])
                         rw [hM, ← hR, hps, hm1, mt_none (hmw.trans (by rw [hnone]))]; first | rfl | (rw [hsame]; rfl))
                  · first
                      | (rw [hM, ← hR, hps, mt_nil]; done)
                      | (rw [hM, ← hR, hps, mt_nil]; rfl)
                      | (have hnone : meetT (sopen (C k) (x.s.wk a)).1 (sopen (C k) (x.s.wk b)).1 = none := (by unfold meetT; rw [if_neg (by rintro ⟨e1, e2, e3⟩; first | exact hA2 e1 | exact hB2 e2 | exact hN e3), if_neg (by rintro ⟨e1, e2, e3, e4⟩; first | exact hA3 e1 | exact hB3 e2 | exact hSn (by rw [e3]) | exact hLn (by rw [e4]))])
                         rw [hM, ← hR, hps, hm1, mt_none (hmw.trans (by rw [hnone]))]; done)
                      | (have hnone : meetT (sopen (C k) (x.s.wk a)).1 (sopen (C k) (x.s.wk b)).1 = none := (by unfold meetT; rw [if_neg (by rintro ⟨e1, e2, e3⟩; first | exact hA2 e1 | exact hB2 e2 | exact hN e3), if_neg (by rintro ⟨e1, e2, e3, e4⟩; first | exact hA3 e1 | exact hB3 e2 | exact hSn (by rw [e3]) | exact hLn (by rw [e4]))])
                         rw [hM, ← hR, hps, hm1, mt_none (hmw.trans (by rw [hnone]))]; first | rfl | (rw [hsame]; rfl))
            · try simp only [decide_eq_true_eq, decide_eq_false_iff_not, beq_iff_eq, beq_eq_false_iff_ne, bne_iff_ne, bne_eq_false_iff_eq, Int.not_lt, Int.not_le, ne_eq, Bool.not_eq_true', Bool.not_eq_false', gt_iff_lt, ge_iff_le] at h7
              have hB2 := h7
              refine RO.off rfl ?_
              refine RO.off rfl ?_
              refine RO.off rfl ?_
              refine RO.off rfl ?_
              refine RO.off rfl ?_
              refine RO.opv (v' := .d (.bool false)) (opv_pick rfl rfl) rfl ?_
              refine RO.opv (v' := .d (.bool false)) (opv_assign rfl) rfl ?_
              refine RO.nil ?_
              refine Runs.condF rfl ?_
              refine Runs.has [(0, .ref 2 0), (1, .d (encL _)), (11, .d (.int _ _)), (12, .own 3 _), (13, .d (.int _ _)), (17, .ref 5 0), (19, .ref 6 0)] ⟨rfl, rfl, rfl, rfl, rfl, rfl, rfl, trivial⟩ ?_
              refine Runs.rseq ?_
              refine RO.opv (v' := .ref 5 0) (opv_field_ref rfl rfl) rfl ?_
              refine RO.opv (v' := .d (.int _ _)) (opv_load_ref rfl rfl rfl) rfl ?_
              refine RO.opv (v' := .d (.bool _)) (opv_bin rfl rfl rfl) rfl ?_
              refine RO.opc (opv_move rfl) (fun h13 => ?_) (fun h13 => ?_)
              · try simp only [decide_eq_true_eq, decide_eq_false_iff_not, beq_iff_eq, beq_eq_false_iff_ne, bne_iff_ne, bne_eq_false_iff_eq, Int.not_lt, Int.not_le, ne_eq, Bool.not_eq_true', Bool.not_eq_false', gt_iff_lt, ge_iff_le] at h13
                have hA3 := h13
                refine RO.opgv (v' := .ref 6 0) rfl (opv_field_ref rfl rfl) rfl ?_
                refine RO.opgv (v' := .d (.int _ _)) rfl (opv_load_ref rfl rfl rfl) rfl ?_
                refine RO.opgv (v' := .d (.bool _)) rfl (opv_bin rfl rfl rfl) rfl ?_
                refine RO.opv (v' := .d (.bool _)) (opv_pick rfl rfl) rfl ?_
                refine RO.opc (opv_move rfl) (fun h14 => ?_) (fun h14 => ?_)
                · try simp only [decide_eq_true_eq, decide_eq_false_iff_not, beq_iff_eq, beq_eq_false_iff_ne, bne_iff_ne, bne_eq_false_iff_eq, Int.not_lt, Int.not_le, ne_eq, Bool.not_eq_true', Bool.not_eq_false', gt_iff_lt, ge_iff_le] at h14
                  have hB3 := h14
                  refine RO.opgv (v' := .ref 5 2) rfl (opv_field_ref rfl rfl) rfl ?_
                  refine RO.opgv (v' := .d (.str _)) rfl (opv_load_ref rfl rfl rfl) rfl ?_
                  refine RO.opgv (v' := .ref 6 2) rfl (opv_field_ref rfl rfl) rfl ?_
                  refine RO.opgv (v' := .d (.str _)) rfl (opv_load_ref rfl rfl rfl) rfl ?_
                  refine RO.opgv (v' := .d (.bool _)) rfl (opv_bin rfl rfl rfl) rfl ?_
                  refine RO.opv (v' := .d (.bool _)) (opv_pick rfl rfl) rfl ?_
                  refine RO.opc (opv_move rfl) (fun h15 => ?_) (fun h15 => ?_)
                  · try simp only [decide_eq_true_eq, decide_eq_false_iff_not, beq_iff_eq, beq_eq_false_iff_ne, bne_iff_ne, bne_eq_false_iff_eq, Int.not_lt, Int.not_le, ne_eq, Bool.not_eq_true', Bool.not_eq_false', gt_iff_lt, ge_iff_le] at h15
                    have hSn : (sopen (C k) (x.s.wk a)).1.name = (sopen (C k) (x.s.wk b)).1.name := ByteArray.ext_list h15
                    refine RO.opgv (v' := .ref 5 3) rfl (opv_field_ref rfl rfl) rfl ?_
                    refine RO.opgv (v' := .d (.list (encs _))) rfl (opv_load_ref rfl rfl rfl) rfl ?_
                    refine RO.opgv (v' := .d (.int _ _)) rfl (opv_len_terms rfl) rfl ?_
                    refine RO.opgv (v' := .ref 6 3) rfl (opv_field_ref rfl rfl) rfl ?_
                    refine RO.opgv (v' := .d (.list (encs _))) rfl (opv_load_ref rfl rfl rfl) rfl ?_
                    refine RO.opgv (v' := .d (.int _ _)) rfl (opv_len_terms rfl) rfl ?_
                    refine RO.opgv (v' := .d (.bool _)) rfl (opv_bin rfl rfl rfl) rfl ?_
                    refine RO.opv (v' := .d (.bool _)) (opv_pick rfl rfl) rfl ?_
                    refine RO.opc (opv_assign rfl) (fun h16 => ?_) (fun h16 => ?_)
                    · try simp only [decide_eq_true_eq, decide_eq_false_iff_not, beq_iff_eq, beq_eq_false_iff_ne, bne_iff_ne, bne_eq_false_iff_eq, Int.not_lt, Int.not_le, ne_eq, Bool.not_eq_true', Bool.not_eq_false', gt_iff_lt, ge_iff_le] at h16
                      have hLn : (sopen (C k) (x.s.wk a)).1.kids.length = (sopen (C k) (x.s.wk b)).1.kids.length := by omega
                      refine RO.nil ?_
                      refine Runs.condT rfl ?_
                      refine Runs.has [(0, .ref 2 0), (1, .d (encL _)), (11, .d (.int _ _)), (12, .own 3 _), (13, .d (.int _ _)), (17, .ref 5 0), (19, .ref 6 0)] ⟨rfl, rfl, rfl, rfl, rfl, rfl, rfl, trivial⟩ ?_
                      refine Runs.region ?_
                      refine RO.opv (v' := .own 3 _) (opv_move rfl) rfl ?_
                      refine RO.opv (v' := .ref 5 3) (opv_field_ref rfl rfl) rfl ?_
                      refine RO.opv (v' := .d (.list (encs _))) (opv_load_ref rfl rfl rfl) rfl ?_
                      refine RO.opv (v' := .ref 6 3) (opv_field_ref rfl rfl) rfl ?_
                      refine RO.opv (v' := .d (.list (encs _))) (opv_load_ref rfl rfl rfl) rfl ?_
                      refine RO.opv (v' := .d (.list (encTTs _))) (opv_callF (pairsD_fn (sopen (C k) (x.s.wk a)).1.kids (sopen (C k) (x.s.wk b)).1.kids hLn (by omega)) rfl rfl rfl trivial) rfl ?_
                      refine RO.opn (v' := .own 3 _) (O' := [_, _, _, _, _, _, _]) (opv_append_ott rfl rfl rfl (by rw [List.length_take, List.length_reverse, List.length_reverse, List.length_zip]; omega)) rfl rfl ?_
                      refine RO.opv (v' := .own 3 _) (opv_assign rfl) rfl ?_
                      refine RO.nil ?_
                      refine blockQ_normal ?_
                      refine blockQ_normal ?_
                      refine thenQ_normal ?_
                      refine ⟨⟨(mbind x.s (x.s.wk a) (x.s.wk b)).1, ((C k).join x.lv ((C k).join (sopen (C k) (x.s.wk a)).2 (sopen (C k) (x.s.wk b)).2)), m', (sopen (C k) (x.s.wk a)).1.kids.zip (sopen (C k) (x.s.wk b)).1.kids ++ qs, x.ver + 1 + 1⟩, 4, (by rw [hK]; exact Nat.le_of_ble_eq_true rfl), ⟨rfl, rfl, trivial⟩, ⟨?_, ?_, ?_, trivial⟩, ?_, ?_, ?_⟩
                      · rfl
                      · rfl
                      · refine int_eq ?_; show 2001 - (x.m : Int) = 2000 - (m' : Int); omega
                      · have e : x.ps.reverse.take qs.length = qs.reverse := by rw [hps]; simp
                        first
                          | (rw [e]; rfl)
                          | (rw [e, ← List.reverse_append]; rfl)
                      · have hmeet : meetT (sopen (C k) (x.s.wk a)).1 (sopen (C k) (x.s.wk b)).1 = some ((sopen (C k) (x.s.wk a)).1.kids.zip (sopen (C k) (x.s.wk b)).1.kids) := (by unfold meetT; rw [if_neg (by rintro ⟨e1, e2, e3⟩; first | exact hA2 e1 | exact hB2 e2 | exact hN e3), if_pos ⟨hA3, hB3, hSn, hLn⟩])
                        have hzl : ((sopen (C k) (x.s.wk a)).1.kids.zip (sopen (C k) (x.s.wk b)).1.kids).length ≤ 8 := by rw [List.length_zip]; omega
                        refine ⟨by show Sg k (mbind x.s (x.s.wk a) (x.s.wk b)).1; rw [hsame]; exact hs, fun p hp' => ?_, ?_, by show m' ≤ 2000; omega, by show ((sopen (C k) (x.s.wk a)).1.kids.zip (sopen (C k) (x.s.wk b)).1.kids ++ qs).length + 8 * m' ≤ _; rw [List.length_append]; omega⟩
                        · rcases List.mem_append.1 hp' with hin | hin
                          · exact ⟨gd_sopen hk wa (List.of_mem_zip hin).1, gd_sopen hk wb (List.of_mem_zip hin).2⟩
                          · exact hp p (by rw [hps]; simp [hin])
                        · show mt (C k) m' (mbind x.s (x.s.wk a) (x.s.wk b)).1 ((C k).join x.lv ((C k).join (sopen (C k) (x.s.wk a)).2 (sopen (C k) (x.s.wk b)).2)) ((sopen (C k) (x.s.wk a)).1.kids.zip (sopen (C k) (x.s.wk b)).1.kids ++ qs) = _
                          rw [hsame, ← hR, hps, hm1, mt_some (hmw.trans (by rw [hmeet]))]
                      · show m' < x.m; omega
                    · try simp only [decide_eq_true_eq, decide_eq_false_iff_not, beq_iff_eq, beq_eq_false_iff_ne, bne_iff_ne, bne_eq_false_iff_eq, Int.not_lt, Int.not_le, ne_eq, Bool.not_eq_true', Bool.not_eq_false', gt_iff_lt, ge_iff_le] at h16
                      have hLn : ¬ (sopen (C k) (x.s.wk a)).1.kids.length = (sopen (C k) (x.s.wk b)).1.kids.length := by omega
                      refine RO.nil ?_
                      refine Runs.condF rfl ?_
                      refine Runs.has [(0, .ref 2 0), (1, .d (encL _)), (11, .d (.int _ _)), (12, .own 3 _), (13, .d (.int _ _))] ⟨rfl, rfl, rfl, rfl, rfl, trivial⟩ ?_
                      refine Runs.rseq ?_
                      refine RO.opv (v' := .d (.int _ _)) (opv_move rfl) rfl ?_
                      refine RO.opv (v' := .d (.bool false)) (opv_assign rfl) rfl ?_
                      refine RO.opv (v' := .d (.int _ _)) (opv_assign rfl) rfl ?_
                      refine RO.opv (v' := .d (.int _ _)) (opv_assign rfl) rfl ?_
                      refine RO.nil ?_
                      refine Runs.ret ?_
                      refine blockQ_ret ?_
                      refine blockQ_ret ?_
                      refine thenQ_ret ?_
                      refine blockQ_ret ?_
                      refine thenQ_ret ?_
                      refine scope0Q_ret ?_
                      refine EndQ.tmps3 (.inr rfl) rfl rfl rfl rfl 3 (by exact Nat.le_refl _) (by simp) ⟨trivial, trivial, trivial, trivial⟩ ⟨?_, ?_⟩
                      · first
                          | (rw [hM, ← hR, hps, mt_nil]; done)
                          | (rw [hM, ← hR, hps, mt_nil]; rfl)
                          | (have hnone : meetT (sopen (C k) (x.s.wk a)).1 (sopen (C k) (x.s.wk b)).1 = none := (by unfold meetT; rw [if_neg (by rintro ⟨e1, e2, e3⟩; first | exact hA2 e1 | exact hB2 e2 | exact hN e3), if_neg (by rintro ⟨e1, e2, e3, e4⟩; first | exact hA3 e1 | exact hB3 e2 | exact hSn (by rw [e3]) | exact hLn (by rw [e4]))])
                             rw [hM, ← hR, hps, hm1, mt_none (hmw.trans (by rw [hnone]))]; done)
                          | (have hnone : meetT (sopen (C k) (x.s.wk a)).1 (sopen (C k) (x.s.wk b)).1 = none := (by unfold meetT; rw [if_neg (by rintro ⟨e1, e2, e3⟩; first | exact hA2 e1 | exact hB2 e2 | exact hN e3), if_neg (by rintro ⟨e1, e2, e3, e4⟩; first | exact hA3 e1 | exact hB3 e2 | exact hSn (by rw [e3]) | exact hLn (by rw [e4]))])
                             rw [hM, ← hR, hps, hm1, mt_none (hmw.trans (by rw [hnone]))]; first | rfl | (rw [hsame]; rfl))
                      · first
                          | (rw [hM, ← hR, hps, mt_nil]; done)
                          | (rw [hM, ← hR, hps, mt_nil]; rfl)
                          | (have hnone : meetT (sopen (C k) (x.s.wk a)).1 (sopen (C k) (x.s.wk b)).1 = none := (by unfold meetT; rw [if_neg (by rintro ⟨e1, e2, e3⟩; first | exact hA2 e1 | exact hB2 e2 | exact hN e3), if_neg (by rintro ⟨e1, e2, e3, e4⟩; first | exact hA3 e1 | exact hB3 e2 | exact hSn (by rw [e3]) | exact hLn (by rw [e4]))])
                             rw [hM, ← hR, hps, hm1, mt_none (hmw.trans (by rw [hnone]))]; done)
                          | (have hnone : meetT (sopen (C k) (x.s.wk a)).1 (sopen (C k) (x.s.wk b)).1 = none := (by unfold meetT; rw [if_neg (by rintro ⟨e1, e2, e3⟩; first | exact hA2 e1 | exact hB2 e2 | exact hN e3), if_neg (by rintro ⟨e1, e2, e3, e4⟩; first | exact hA3 e1 | exact hB3 e2 | exact hSn (by rw [e3]) | exact hLn (by rw [e4]))])
                             rw [hM, ← hR, hps, hm1, mt_none (hmw.trans (by rw [hnone]))]; first | rfl | (rw [hsame]; rfl))
                  · try simp only [decide_eq_true_eq, decide_eq_false_iff_not, beq_iff_eq, beq_eq_false_iff_ne, bne_iff_ne, bne_eq_false_iff_eq, Int.not_lt, Int.not_le, ne_eq, Bool.not_eq_true', Bool.not_eq_false', gt_iff_lt, ge_iff_le] at h15
                    have hSn := h15
                    refine RO.off rfl ?_
                    refine RO.off rfl ?_
                    refine RO.off rfl ?_
                    refine RO.off rfl ?_
                    refine RO.off rfl ?_
                    refine RO.off rfl ?_
                    refine RO.off rfl ?_
                    refine RO.opv (v' := .d (.bool false)) (opv_pick rfl rfl) rfl ?_
                    refine RO.opv (v' := .d (.bool false)) (opv_assign rfl) rfl ?_
                    refine RO.nil ?_
                    refine Runs.condF rfl ?_
                    refine Runs.has [(0, .ref 2 0), (1, .d (encL _)), (11, .d (.int _ _)), (12, .own 3 _), (13, .d (.int _ _))] ⟨rfl, rfl, rfl, rfl, rfl, trivial⟩ ?_
                    refine Runs.rseq ?_
                    refine RO.opv (v' := .d (.int _ _)) (opv_move rfl) rfl ?_
                    refine RO.opv (v' := .d (.bool false)) (opv_assign rfl) rfl ?_
                    refine RO.opv (v' := .d (.int _ _)) (opv_assign rfl) rfl ?_
                    refine RO.opv (v' := .d (.int _ _)) (opv_assign rfl) rfl ?_
                    refine RO.nil ?_
                    refine Runs.ret ?_
                    refine blockQ_ret ?_
                    refine blockQ_ret ?_
                    refine thenQ_ret ?_
                    refine blockQ_ret ?_
                    refine thenQ_ret ?_
                    refine scope0Q_ret ?_
                    refine EndQ.tmps3 (.inr rfl) rfl rfl rfl rfl 3 (by exact Nat.le_refl _) (by simp) ⟨trivial, trivial, trivial, trivial⟩ ⟨?_, ?_⟩
                    · first
                        | (rw [hM, ← hR, hps, mt_nil]; done)
                        | (rw [hM, ← hR, hps, mt_nil]; rfl)
                        | (have hnone : meetT (sopen (C k) (x.s.wk a)).1 (sopen (C k) (x.s.wk b)).1 = none := (by unfold meetT; rw [if_neg (by rintro ⟨e1, e2, e3⟩; first | exact hA2 e1 | exact hB2 e2 | exact hN e3), if_neg (by rintro ⟨e1, e2, e3, e4⟩; first | exact hA3 e1 | exact hB3 e2 | exact hSn (by rw [e3]) | exact hLn (by rw [e4]))])
                           rw [hM, ← hR, hps, hm1, mt_none (hmw.trans (by rw [hnone]))]; done)
                        | (have hnone : meetT (sopen (C k) (x.s.wk a)).1 (sopen (C k) (x.s.wk b)).1 = none := (by unfold meetT; rw [if_neg (by rintro ⟨e1, e2, e3⟩; first | exact hA2 e1 | exact hB2 e2 | exact hN e3), if_neg (by rintro ⟨e1, e2, e3, e4⟩; first | exact hA3 e1 | exact hB3 e2 | exact hSn (by rw [e3]) | exact hLn (by rw [e4]))])
                           rw [hM, ← hR, hps, hm1, mt_none (hmw.trans (by rw [hnone]))]; first | rfl | (rw [hsame]; rfl))
                    · first
                        | (rw [hM, ← hR, hps, mt_nil]; done)
                        | (rw [hM, ← hR, hps, mt_nil]; rfl)
                        | (have hnone : meetT (sopen (C k) (x.s.wk a)).1 (sopen (C k) (x.s.wk b)).1 = none := (by unfold meetT; rw [if_neg (by rintro ⟨e1, e2, e3⟩; first | exact hA2 e1 | exact hB2 e2 | exact hN e3), if_neg (by rintro ⟨e1, e2, e3, e4⟩; first | exact hA3 e1 | exact hB3 e2 | exact hSn (by rw [e3]) | exact hLn (by rw [e4]))])
                           rw [hM, ← hR, hps, hm1, mt_none (hmw.trans (by rw [hnone]))]; done)
                        | (have hnone : meetT (sopen (C k) (x.s.wk a)).1 (sopen (C k) (x.s.wk b)).1 = none := (by unfold meetT; rw [if_neg (by rintro ⟨e1, e2, e3⟩; first | exact hA2 e1 | exact hB2 e2 | exact hN e3), if_neg (by rintro ⟨e1, e2, e3, e4⟩; first | exact hA3 e1 | exact hB3 e2 | exact hSn (by rw [e3]) | exact hLn (by rw [e4]))])
                           rw [hM, ← hR, hps, hm1, mt_none (hmw.trans (by rw [hnone]))]; first | rfl | (rw [hsame]; rfl))
                · try simp only [decide_eq_true_eq, decide_eq_false_iff_not, beq_iff_eq, beq_eq_false_iff_ne, bne_iff_ne, bne_eq_false_iff_eq, Int.not_lt, Int.not_le, ne_eq, Bool.not_eq_true', Bool.not_eq_false', gt_iff_lt, ge_iff_le] at h14
                  have hB3 := h14
                  refine RO.off rfl ?_
                  refine RO.off rfl ?_
                  refine RO.off rfl ?_
                  refine RO.off rfl ?_
                  refine RO.off rfl ?_
                  refine RO.opv (v' := .d (.bool false)) (opv_pick rfl rfl) rfl ?_
                  refine RO.opv (v' := .d (.bool false)) (opv_move rfl) rfl ?_
                  refine RO.off rfl ?_
                  refine RO.off rfl ?_
                  refine RO.off rfl ?_
                  refine RO.off rfl ?_
                  refine RO.off rfl ?_
                  refine RO.off rfl ?_
                  refine RO.off rfl ?_
                  refine RO.opv (v' := .d (.bool false)) (opv_pick rfl rfl) rfl ?_
                  refine RO.opv (v' := .d (.bool false)) (opv_assign rfl) rfl ?_
                  refine RO.nil ?_
                  refine Runs.condF rfl ?_
                  refine Runs.has [(0, .ref 2 0), (1, .d (encL _)), (11, .d (.int _ _)), (12, .own 3 _), (13, .d (.int _ _))] ⟨rfl, rfl, rfl, rfl, rfl, trivial⟩ ?_
                  refine Runs.rseq ?_
                  refine RO.opv (v' := .d (.int _ _)) (opv_move rfl) rfl ?_
                  refine RO.opv (v' := .d (.bool false)) (opv_assign rfl) rfl ?_
                  refine RO.opv (v' := .d (.int _ _)) (opv_assign rfl) rfl ?_
                  refine RO.opv (v' := .d (.int _ _)) (opv_assign rfl) rfl ?_
                  refine RO.nil ?_
                  refine Runs.ret ?_
                  refine blockQ_ret ?_
                  refine blockQ_ret ?_
                  refine thenQ_ret ?_
                  refine blockQ_ret ?_
                  refine thenQ_ret ?_
                  refine scope0Q_ret ?_
                  refine EndQ.tmps3 (.inr rfl) rfl rfl rfl rfl 3 (by exact Nat.le_refl _) (by simp) ⟨trivial, trivial, trivial, trivial⟩ ⟨?_, ?_⟩
                  · first
                      | (rw [hM, ← hR, hps, mt_nil]; done)
                      | (rw [hM, ← hR, hps, mt_nil]; rfl)
                      | (have hnone : meetT (sopen (C k) (x.s.wk a)).1 (sopen (C k) (x.s.wk b)).1 = none := (by unfold meetT; rw [if_neg (by rintro ⟨e1, e2, e3⟩; first | exact hA2 e1 | exact hB2 e2 | exact hN e3), if_neg (by rintro ⟨e1, e2, e3, e4⟩; first | exact hA3 e1 | exact hB3 e2 | exact hSn (by rw [e3]) | exact hLn (by rw [e4]))])
                         rw [hM, ← hR, hps, hm1, mt_none (hmw.trans (by rw [hnone]))]; done)
                      | (have hnone : meetT (sopen (C k) (x.s.wk a)).1 (sopen (C k) (x.s.wk b)).1 = none := (by unfold meetT; rw [if_neg (by rintro ⟨e1, e2, e3⟩; first | exact hA2 e1 | exact hB2 e2 | exact hN e3), if_neg (by rintro ⟨e1, e2, e3, e4⟩; first | exact hA3 e1 | exact hB3 e2 | exact hSn (by rw [e3]) | exact hLn (by rw [e4]))])
                         rw [hM, ← hR, hps, hm1, mt_none (hmw.trans (by rw [hnone]))]; first | rfl | (rw [hsame]; rfl))
                  · first
                      | (rw [hM, ← hR, hps, mt_nil]; done)
                      | (rw [hM, ← hR, hps, mt_nil]; rfl)
                      | (have hnone : meetT (sopen (C k) (x.s.wk a)).1 (sopen (C k) (x.s.wk b)).1 = none := (by unfold meetT; rw [if_neg (by rintro ⟨e1, e2, e3⟩; first | exact hA2 e1 | exact hB2 e2 | exact hN e3), if_neg (by rintro ⟨e1, e2, e3, e4⟩; first | exact hA3 e1 | exact hB3 e2 | exact hSn (by rw [e3]) | exact hLn (by rw [e4]))])
                         rw [hM, ← hR, hps, hm1, mt_none (hmw.trans (by rw [hnone]))]; done)
                      | (have hnone : meetT (sopen (C k) (x.s.wk a)).1 (sopen (C k) (x.s.wk b)).1 = none := (by unfold meetT; rw [if_neg (by rintro ⟨e1, e2, e3⟩; first | exact hA2 e1 | exact hB2 e2 | exact hN e3), if_neg (by rintro ⟨e1, e2, e3, e4⟩; first | exact hA3 e1 | exact hB3 e2 | exact hSn (by rw [e3]) | exact hLn (by rw [e4]))])
                         rw [hM, ← hR, hps, hm1, mt_none (hmw.trans (by rw [hnone]))]; first | rfl | (rw [hsame]; rfl))
              · try simp only [decide_eq_true_eq, decide_eq_false_iff_not, beq_iff_eq, beq_eq_false_iff_ne, bne_iff_ne, bne_eq_false_iff_eq, Int.not_lt, Int.not_le, ne_eq, Bool.not_eq_true', Bool.not_eq_false', gt_iff_lt, ge_iff_le] at h13
                have hA3 := h13
                refine RO.off rfl ?_
                refine RO.off rfl ?_
                refine RO.off rfl ?_
                refine RO.opv (v' := .d (.bool false)) (opv_pick rfl rfl) rfl ?_
                refine RO.opv (v' := .d (.bool false)) (opv_move rfl) rfl ?_
                refine RO.off rfl ?_
                refine RO.off rfl ?_
                refine RO.off rfl ?_
                refine RO.off rfl ?_
                refine RO.off rfl ?_
                refine RO.opv (v' := .d (.bool false)) (opv_pick rfl rfl) rfl ?_
                refine RO.opv (v' := .d (.bool false)) (opv_move rfl) rfl ?_
                refine RO.off rfl ?_
                refine RO.off rfl ?_
                refine RO.off rfl ?_
                refine RO.off rfl ?_
                refine RO.off rfl ?_
                refine RO.off rfl ?_
                refine RO.off rfl ?_
                refine RO.opv (v' := .d (.bool false)) (opv_pick rfl rfl) rfl ?_
                refine RO.opv (v' := .d (.bool false)) (opv_assign rfl) rfl ?_
                refine RO.nil ?_
                refine Runs.condF rfl ?_
                refine Runs.has [(0, .ref 2 0), (1, .d (encL _)), (11, .d (.int _ _)), (12, .own 3 _), (13, .d (.int _ _))] ⟨rfl, rfl, rfl, rfl, rfl, trivial⟩ ?_
                refine Runs.rseq ?_
                refine RO.opv (v' := .d (.int _ _)) (opv_move rfl) rfl ?_
                refine RO.opv (v' := .d (.bool false)) (opv_assign rfl) rfl ?_
                refine RO.opv (v' := .d (.int _ _)) (opv_assign rfl) rfl ?_
                refine RO.opv (v' := .d (.int _ _)) (opv_assign rfl) rfl ?_
                refine RO.nil ?_
                refine Runs.ret ?_
                refine blockQ_ret ?_
                refine blockQ_ret ?_
                refine thenQ_ret ?_
                refine blockQ_ret ?_
                refine thenQ_ret ?_
                refine scope0Q_ret ?_
                refine EndQ.tmps3 (.inr rfl) rfl rfl rfl rfl 3 (by exact Nat.le_refl _) (by simp) ⟨trivial, trivial, trivial, trivial⟩ ⟨?_, ?_⟩
                · first
                    | (rw [hM, ← hR, hps, mt_nil]; done)
                    | (rw [hM, ← hR, hps, mt_nil]; rfl)
                    | (have hnone : meetT (sopen (C k) (x.s.wk a)).1 (sopen (C k) (x.s.wk b)).1 = none := (by unfold meetT; rw [if_neg (by rintro ⟨e1, e2, e3⟩; first | exact hA2 e1 | exact hB2 e2 | exact hN e3), if_neg (by rintro ⟨e1, e2, e3, e4⟩; first | exact hA3 e1 | exact hB3 e2 | exact hSn (by rw [e3]) | exact hLn (by rw [e4]))])
                       rw [hM, ← hR, hps, hm1, mt_none (hmw.trans (by rw [hnone]))]; done)
                    | (have hnone : meetT (sopen (C k) (x.s.wk a)).1 (sopen (C k) (x.s.wk b)).1 = none := (by unfold meetT; rw [if_neg (by rintro ⟨e1, e2, e3⟩; first | exact hA2 e1 | exact hB2 e2 | exact hN e3), if_neg (by rintro ⟨e1, e2, e3, e4⟩; first | exact hA3 e1 | exact hB3 e2 | exact hSn (by rw [e3]) | exact hLn (by rw [e4]))])
                       rw [hM, ← hR, hps, hm1, mt_none (hmw.trans (by rw [hnone]))]; first | rfl | (rw [hsame]; rfl))
                · first
                    | (rw [hM, ← hR, hps, mt_nil]; done)
                    | (rw [hM, ← hR, hps, mt_nil]; rfl)
                    | (have hnone : meetT (sopen (C k) (x.s.wk a)).1 (sopen (C k) (x.s.wk b)).1 = none := (by unfold meetT; rw [if_neg (by rintro ⟨e1, e2, e3⟩; first | exact hA2 e1 | exact hB2 e2 | exact hN e3), if_neg (by rintro ⟨e1, e2, e3, e4⟩; first | exact hA3 e1 | exact hB3 e2 | exact hSn (by rw [e3]) | exact hLn (by rw [e4]))])
                       rw [hM, ← hR, hps, hm1, mt_none (hmw.trans (by rw [hnone]))]; done)
                    | (have hnone : meetT (sopen (C k) (x.s.wk a)).1 (sopen (C k) (x.s.wk b)).1 = none := (by unfold meetT; rw [if_neg (by rintro ⟨e1, e2, e3⟩; first | exact hA2 e1 | exact hB2 e2 | exact hN e3), if_neg (by rintro ⟨e1, e2, e3, e4⟩; first | exact hA3 e1 | exact hB3 e2 | exact hSn (by rw [e3]) | exact hLn (by rw [e4]))])
                       rw [hM, ← hR, hps, hm1, mt_none (hmw.trans (by rw [hnone]))]; first | rfl | (rw [hsame]; rfl))
          · try simp only [decide_eq_true_eq, decide_eq_false_iff_not, beq_iff_eq, beq_eq_false_iff_ne, bne_iff_ne, bne_eq_false_iff_eq, Int.not_lt, Int.not_le, ne_eq, Bool.not_eq_true', Bool.not_eq_false', gt_iff_lt, ge_iff_le] at h6
            have hA2 := h6
            refine RO.off rfl ?_
            refine RO.off rfl ?_
            refine RO.off rfl ?_
            refine RO.opv (v' := .d (.bool false)) (opv_pick rfl rfl) rfl ?_
            refine RO.opv (v' := .d (.bool false)) (opv_move rfl) rfl ?_
            refine RO.off rfl ?_
            refine RO.off rfl ?_
            refine RO.off rfl ?_
            refine RO.off rfl ?_
            refine RO.off rfl ?_
            refine RO.opv (v' := .d (.bool false)) (opv_pick rfl rfl) rfl ?_
            refine RO.opv (v' := .d (.bool false)) (opv_assign rfl) rfl ?_
            refine RO.nil ?_
            refine Runs.condF rfl ?_
            refine Runs.has [(0, .ref 2 0), (1, .d (encL _)), (11, .d (.int _ _)), (12, .own 3 _), (13, .d (.int _ _)), (17, .ref 5 0), (19, .ref 6 0)] ⟨rfl, rfl, rfl, rfl, rfl, rfl, rfl, trivial⟩ ?_
            refine Runs.rseq ?_
            refine RO.opv (v' := .ref 5 0) (opv_field_ref rfl rfl) rfl ?_
            refine RO.opv (v' := .d (.int _ _)) (opv_load_ref rfl rfl rfl) rfl ?_
            refine RO.opv (v' := .d (.bool _)) (opv_bin rfl rfl rfl) rfl ?_
            refine RO.opc (opv_move rfl) (fun h17 => ?_) (fun h17 => ?_)
            · try simp only [decide_eq_true_eq, decide_eq_false_iff_not, beq_iff_eq, beq_eq_false_iff_ne, bne_iff_ne, bne_eq_false_iff_eq, Int.not_lt, Int.not_le, ne_eq, Bool.not_eq_true', Bool.not_eq_false', gt_iff_lt, ge_iff_le] at h17
              have hA3 := h17
              refine RO.opgv (v' := .ref 6 0) rfl (opv_field_ref rfl rfl) rfl ?_
              refine RO.opgv (v' := .d (.int _ _)) rfl (opv_load_ref rfl rfl rfl) rfl ?_
              refine RO.opgv (v' := .d (.bool _)) rfl (opv_bin rfl rfl rfl) rfl ?_
              refine RO.opv (v' := .d (.bool _)) (opv_pick rfl rfl) rfl ?_
              refine RO.opc (opv_move rfl) (fun h18 => ?_) (fun h18 => ?_)
              · try simp only [decide_eq_true_eq, decide_eq_false_iff_not, beq_iff_eq, beq_eq_false_iff_ne, bne_iff_ne, bne_eq_false_iff_eq, Int.not_lt, Int.not_le, ne_eq, Bool.not_eq_true', Bool.not_eq_false', gt_iff_lt, ge_iff_le] at h18
                have hB3 := h18
                refine RO.opgv (v' := .ref 5 2) rfl (opv_field_ref rfl rfl) rfl ?_
                refine RO.opgv (v' := .d (.str _)) rfl (opv_load_ref rfl rfl rfl) rfl ?_
                refine RO.opgv (v' := .ref 6 2) rfl (opv_field_ref rfl rfl) rfl ?_
                refine RO.opgv (v' := .d (.str _)) rfl (opv_load_ref rfl rfl rfl) rfl ?_
                refine RO.opgv (v' := .d (.bool _)) rfl (opv_bin rfl rfl rfl) rfl ?_
                refine RO.opv (v' := .d (.bool _)) (opv_pick rfl rfl) rfl ?_
                refine RO.opc (opv_move rfl) (fun h19 => ?_) (fun h19 => ?_)
                · try simp only [decide_eq_true_eq, decide_eq_false_iff_not, beq_iff_eq, beq_eq_false_iff_ne, bne_iff_ne, bne_eq_false_iff_eq, Int.not_lt, Int.not_le, ne_eq, Bool.not_eq_true', Bool.not_eq_false', gt_iff_lt, ge_iff_le] at h19
                  have hSn : (sopen (C k) (x.s.wk a)).1.name = (sopen (C k) (x.s.wk b)).1.name := ByteArray.ext_list h19
                  refine RO.opgv (v' := .ref 5 3) rfl (opv_field_ref rfl rfl) rfl ?_
                  refine RO.opgv (v' := .d (.list (encs _))) rfl (opv_load_ref rfl rfl rfl) rfl ?_
                  refine RO.opgv (v' := .d (.int _ _)) rfl (opv_len_terms rfl) rfl ?_
                  refine RO.opgv (v' := .ref 6 3) rfl (opv_field_ref rfl rfl) rfl ?_
                  refine RO.opgv (v' := .d (.list (encs _))) rfl (opv_load_ref rfl rfl rfl) rfl ?_
                  refine RO.opgv (v' := .d (.int _ _)) rfl (opv_len_terms rfl) rfl ?_
                  refine RO.opgv (v' := .d (.bool _)) rfl (opv_bin rfl rfl rfl) rfl ?_
                  refine RO.opv (v' := .d (.bool _)) (opv_pick rfl rfl) rfl ?_
                  refine RO.opc (opv_assign rfl) (fun h20 => ?_) (fun h20 => ?_)
                  · try simp only [decide_eq_true_eq, decide_eq_false_iff_not, beq_iff_eq, beq_eq_false_iff_ne, bne_iff_ne, bne_eq_false_iff_eq, Int.not_lt, Int.not_le, ne_eq, Bool.not_eq_true', Bool.not_eq_false', gt_iff_lt, ge_iff_le] at h20
                    have hLn : (sopen (C k) (x.s.wk a)).1.kids.length = (sopen (C k) (x.s.wk b)).1.kids.length := by omega
                    refine RO.nil ?_
                    refine Runs.condT rfl ?_
                    refine Runs.has [(0, .ref 2 0), (1, .d (encL _)), (11, .d (.int _ _)), (12, .own 3 _), (13, .d (.int _ _)), (17, .ref 5 0), (19, .ref 6 0)] ⟨rfl, rfl, rfl, rfl, rfl, rfl, rfl, trivial⟩ ?_
                    refine Runs.region ?_
                    refine RO.opv (v' := .own 3 _) (opv_move rfl) rfl ?_
                    refine RO.opv (v' := .ref 5 3) (opv_field_ref rfl rfl) rfl ?_
                    refine RO.opv (v' := .d (.list (encs _))) (opv_load_ref rfl rfl rfl) rfl ?_
                    refine RO.opv (v' := .ref 6 3) (opv_field_ref rfl rfl) rfl ?_
                    refine RO.opv (v' := .d (.list (encs _))) (opv_load_ref rfl rfl rfl) rfl ?_
                    refine RO.opv (v' := .d (.list (encTTs _))) (opv_callF (pairsD_fn (sopen (C k) (x.s.wk a)).1.kids (sopen (C k) (x.s.wk b)).1.kids hLn (by omega)) rfl rfl rfl trivial) rfl ?_
                    refine RO.opn (v' := .own 3 _) (O' := [_, _, _, _, _, _, _]) (opv_append_ott rfl rfl rfl (by rw [List.length_take, List.length_reverse, List.length_reverse, List.length_zip]; omega)) rfl rfl ?_
                    refine RO.opv (v' := .own 3 _) (opv_assign rfl) rfl ?_
                    refine RO.nil ?_
                    refine blockQ_normal ?_
                    refine blockQ_normal ?_
                    refine thenQ_normal ?_
                    refine ⟨⟨(mbind x.s (x.s.wk a) (x.s.wk b)).1, ((C k).join x.lv ((C k).join (sopen (C k) (x.s.wk a)).2 (sopen (C k) (x.s.wk b)).2)), m', (sopen (C k) (x.s.wk a)).1.kids.zip (sopen (C k) (x.s.wk b)).1.kids ++ qs, x.ver + 1 + 1⟩, 4, (by rw [hK]; exact Nat.le_of_ble_eq_true rfl), ⟨rfl, rfl, trivial⟩, ⟨?_, ?_, ?_, trivial⟩, ?_, ?_, ?_⟩
                    · rfl
                    · rfl
                    · refine int_eq ?_; show 2001 - (x.m : Int) = 2000 - (m' : Int); omega
                    · have e : x.ps.reverse.take qs.length = qs.reverse := by rw [hps]; simp
                      first
                        | (rw [e]; rfl)
                        | (rw [e, ← List.reverse_append]; rfl)
                    · have hmeet : meetT (sopen (C k) (x.s.wk a)).1 (sopen (C k) (x.s.wk b)).1 = some ((sopen (C k) (x.s.wk a)).1.kids.zip (sopen (C k) (x.s.wk b)).1.kids) := (by unfold meetT; rw [if_neg (by rintro ⟨e1, e2, e3⟩; first | exact hA2 e1 | exact hB2 e2 | exact hN e3), if_pos ⟨hA3, hB3, hSn, hLn⟩])
                      have hzl : ((sopen (C k) (x.s.wk a)).1.kids.zip (sopen (C k) (x.s.wk b)).1.kids).length ≤ 8 := by rw [List.length_zip]; omega
                      refine ⟨by show Sg k (mbind x.s (x.s.wk a) (x.s.wk b)).1; rw [hsame]; exact hs, fun p hp' => ?_, ?_, by show m' ≤ 2000; omega, by show ((sopen (C k) (x.s.wk a)).1.kids.zip (sopen (C k) (x.s.wk b)).1.kids ++ qs).length + 8 * m' ≤ _; rw [List.length_append]; omega⟩
                      · rcases List.mem_append.1 hp' with hin | hin
                        · exact ⟨gd_sopen hk wa (List.of_mem_zip hin).1, gd_sopen hk wb (List.of_mem_zip hin).2⟩
                        · exact hp p (by rw [hps]; simp [hin])
                      · show mt (C k) m' (mbind x.s (x.s.wk a) (x.s.wk b)).1 ((C k).join x.lv ((C k).join (sopen (C k) (x.s.wk a)).2 (sopen (C k) (x.s.wk b)).2)) ((sopen (C k) (x.s.wk a)).1.kids.zip (sopen (C k) (x.s.wk b)).1.kids ++ qs) = _
                        rw [hsame, ← hR, hps, hm1, mt_some (hmw.trans (by rw [hmeet]))]
                    · show m' < x.m; omega
                  · try simp only [decide_eq_true_eq, decide_eq_false_iff_not, beq_iff_eq, beq_eq_false_iff_ne, bne_iff_ne, bne_eq_false_iff_eq, Int.not_lt, Int.not_le, ne_eq, Bool.not_eq_true', Bool.not_eq_false', gt_iff_lt, ge_iff_le] at h20
                    have hLn : ¬ (sopen (C k) (x.s.wk a)).1.kids.length = (sopen (C k) (x.s.wk b)).1.kids.length := by omega
                    refine RO.nil ?_
                    refine Runs.condF rfl ?_
                    refine Runs.has [(0, .ref 2 0), (1, .d (encL _)), (11, .d (.int _ _)), (12, .own 3 _), (13, .d (.int _ _))] ⟨rfl, rfl, rfl, rfl, rfl, trivial⟩ ?_
                    refine Runs.rseq ?_
                    refine RO.opv (v' := .d (.int _ _)) (opv_move rfl) rfl ?_
                    refine RO.opv (v' := .d (.bool false)) (opv_assign rfl) rfl ?_
                    refine RO.opv (v' := .d (.int _ _)) (opv_assign rfl) rfl ?_
                    refine RO.opv (v' := .d (.int _ _)) (opv_assign rfl) rfl ?_
                    refine RO.nil ?_
                    refine Runs.ret ?_
                    refine blockQ_ret ?_
                    refine blockQ_ret ?_
                    refine thenQ_ret ?_
                    refine blockQ_ret ?_
                    refine thenQ_ret ?_
                    refine scope0Q_ret ?_
                    refine EndQ.tmps3 (.inr rfl) rfl rfl rfl rfl 3 (by exact Nat.le_refl _) (by simp) ⟨trivial, trivial, trivial, trivial⟩ ⟨?_, ?_⟩
                    · first
                        | (rw [hM, ← hR, hps, mt_nil]; done)
                        | (rw [hM, ← hR, hps, mt_nil]; rfl)
                        | (have hnone : meetT (sopen (C k) (x.s.wk a)).1 (sopen (C k) (x.s.wk b)).1 = none := (by unfold meetT; rw [if_neg (by rintro ⟨e1, e2, e3⟩; first | exact hA2 e1 | exact hB2 e2 | exact hN e3), if_neg (by rintro ⟨e1, e2, e3, e4⟩; first | exact hA3 e1 | exact hB3 e2 | exact hSn (by rw [e3]) | exact hLn (by rw [e4]))])
                           rw [hM, ← hR, hps, hm1, mt_none (hmw.trans (by rw [hnone]))]; done)
                        | (have hnone : meetT (sopen (C k) (x.s.wk a)).1 (sopen (C k) (x.s.wk b)).1 = none := (by unfold meetT; rw [if_neg (by rintro ⟨e1, e2, e3⟩; first | exact hA2 e1 | exact hB2 e2 | exact hN e3), if_neg (by rintro ⟨e1, e2, e3, e4⟩; first | exact hA3 e1 | exact hB3 e2 | exact hSn (by rw [e3]) | exact hLn (by rw [e4]))])
                           rw [hM, ← hR, hps, hm1, mt_none (hmw.trans (by rw [hnone]))]; first | rfl | (rw [hsame]; rfl))
                    · first
                        | (rw [hM, ← hR, hps, mt_nil]; done)
                        | (rw [hM, ← hR, hps, mt_nil]; rfl)
                        | (have hnone : meetT (sopen (C k) (x.s.wk a)).1 (sopen (C k) (x.s.wk b)).1 = none := (by unfold meetT; rw [if_neg (by rintro ⟨e1, e2, e3⟩; first | exact hA2 e1 | exact hB2 e2 | exact hN e3), if_neg (by rintro ⟨e1, e2, e3, e4⟩; first | exact hA3 e1 | exact hB3 e2 | exact hSn (by rw [e3]) | exact hLn (by rw [e4]))])
                           rw [hM, ← hR, hps, hm1, mt_none (hmw.trans (by rw [hnone]))]; done)
                        | (have hnone : meetT (sopen (C k) (x.s.wk a)).1 (sopen (C k) (x.s.wk b)).1 = none := (by unfold meetT; rw [if_neg (by rintro ⟨e1, e2, e3⟩; first | exact hA2 e1 | exact hB2 e2 | exact hN e3), if_neg (by rintro ⟨e1, e2, e3, e4⟩; first | exact hA3 e1 | exact hB3 e2 | exact hSn (by rw [e3]) | exact hLn (by rw [e4]))])
                           rw [hM, ← hR, hps, hm1, mt_none (hmw.trans (by rw [hnone]))]; first | rfl | (rw [hsame]; rfl))
                · try simp only [decide_eq_true_eq, decide_eq_false_iff_not, beq_iff_eq, beq_eq_false_iff_ne, bne_iff_ne, bne_eq_false_iff_eq, Int.not_lt, Int.not_le, ne_eq, Bool.not_eq_true', Bool.not_eq_false', gt_iff_lt, ge_iff_le] at h19
                  have hSn := h19
                  refine RO.off rfl ?_
                  refine RO.off rfl ?_
                  refine RO.off rfl ?_
                  refine RO.off rfl ?_
                  refine RO.off rfl ?_
                  refine RO.off rfl ?_
                  refine RO.off rfl ?_
                  refine RO.opv (v' := .d (.bool false)) (opv_pick rfl rfl) rfl ?_
                  refine RO.opv (v' := .d (.bool false)) (opv_assign rfl) rfl ?_
                  refine RO.nil ?_
                  refine Runs.condF rfl ?_
                  refine Runs.has [(0, .ref 2 0), (1, .d (encL _)), (11, .d (.int _ _)), (12, .own 3 _), (13, .d (.int _ _))] ⟨rfl, rfl, rfl, rfl, rfl, trivial⟩ ?_
                  refine Runs.rseq ?_
                  refine RO.opv (v' := .d (.int _ _)) (opv_move rfl) rfl ?_
                  refine RO.opv (v' := .d (.bool false)) (opv_assign rfl) rfl ?_
                  refine RO.opv (v' := .d (.int _ _)) (opv_assign rfl) rfl ?_
                  refine RO.opv (v' := .d (.int _ _)) (opv_assign rfl) rfl ?_
                  refine RO.nil ?_
                  refine Runs.ret ?_
                  refine blockQ_ret ?_
                  refine blockQ_ret ?_
                  refine thenQ_ret ?_
                  refine blockQ_ret ?_
                  refine thenQ_ret ?_
                  refine scope0Q_ret ?_
                  refine EndQ.tmps3 (.inr rfl) rfl rfl rfl rfl 3 (by exact Nat.le_refl _) (by simp) ⟨trivial, trivial, trivial, trivial⟩ ⟨?_, ?_⟩
                  · first
                      | (rw [hM, ← hR, hps, mt_nil]; done)
                      | (rw [hM, ← hR, hps, mt_nil]; rfl)
                      | (have hnone : meetT (sopen (C k) (x.s.wk a)).1 (sopen (C k) (x.s.wk b)).1 = none := (by unfold meetT; rw [if_neg (by rintro ⟨e1, e2, e3⟩; first | exact hA2 e1 | exact hB2 e2 | exact hN e3), if_neg (by rintro ⟨e1, e2, e3, e4⟩; first | exact hA3 e1 | exact hB3 e2 | exact hSn (by rw [e3]) | exact hLn (by rw [e4]))])
                         rw [hM, ← hR, hps, hm1, mt_none (hmw.trans (by rw [hnone]))]; done)
                      | (have hnone : meetT (sopen (C k) (x.s.wk a)).1 (sopen (C k) (x.s.wk b)).1 = none := (by unfold meetT; rw [if_neg (by rintro ⟨e1, e2, e3⟩; first | exact hA2 e1 | exact hB2 e2 | exact hN e3), if_neg (by rintro ⟨e1, e2, e3, e4⟩; first | exact hA3 e1 | exact hB3 e2 | exact hSn (by rw [e3]) | exact hLn (by rw [e4]))])
                         rw [hM, ← hR, hps, hm1, mt_none (hmw.trans (by rw [hnone]))]; first | rfl | (rw [hsame]; rfl))
                  · first
                      | (rw [hM, ← hR, hps, mt_nil]; done)
                      | (rw [hM, ← hR, hps, mt_nil]; rfl)
                      | (have hnone : meetT (sopen (C k) (x.s.wk a)).1 (sopen (C k) (x.s.wk b)).1 = none := (by unfold meetT; rw [if_neg (by rintro ⟨e1, e2, e3⟩; first | exact hA2 e1 | exact hB2 e2 | exact hN e3), if_neg (by rintro ⟨e1, e2, e3, e4⟩; first | exact hA3 e1 | exact hB3 e2 | exact hSn (by rw [e3]) | exact hLn (by rw [e4]))])
                         rw [hM, ← hR, hps, hm1, mt_none (hmw.trans (by rw [hnone]))]; done)
                      | (have hnone : meetT (sopen (C k) (x.s.wk a)).1 (sopen (C k) (x.s.wk b)).1 = none := (by unfold meetT; rw [if_neg (by rintro ⟨e1, e2, e3⟩; first | exact hA2 e1 | exact hB2 e2 | exact hN e3), if_neg (by rintro ⟨e1, e2, e3, e4⟩; first | exact hA3 e1 | exact hB3 e2 | exact hSn (by rw [e3]) | exact hLn (by rw [e4]))])
                         rw [hM, ← hR, hps, hm1, mt_none (hmw.trans (by rw [hnone]))]; first | rfl | (rw [hsame]; rfl))
              · try simp only [decide_eq_true_eq, decide_eq_false_iff_not, beq_iff_eq, beq_eq_false_iff_ne, bne_iff_ne, bne_eq_false_iff_eq, Int.not_lt, Int.not_le, ne_eq, Bool.not_eq_true', Bool.not_eq_false', gt_iff_lt, ge_iff_le] at h18
                have hB3 := h18
                refine RO.off rfl ?_
                refine RO.off rfl ?_
                refine RO.off rfl ?_
                refine RO.off rfl ?_
                refine RO.off rfl ?_
                refine RO.opv (v' := .d (.bool false)) (opv_pick rfl rfl) rfl ?_
                refine RO.opv (v' := .d (.bool false)) (opv_move rfl) rfl ?_
                refine RO.off rfl ?_
                refine RO.off rfl ?_
                refine RO.off rfl ?_
                refine RO.off rfl ?_
                refine RO.off rfl ?_
                refine RO.off rfl ?_
                refine RO.off rfl ?_
                refine RO.opv (v' := .d (.bool false)) (opv_pick rfl rfl) rfl ?_
                refine RO.opv (v' := .d (.bool false)) (opv_assign rfl) rfl ?_
                refine RO.nil ?_
                refine Runs.condF rfl ?_
                refine Runs.has [(0, .ref 2 0), (1, .d (encL _)), (11, .d (.int _ _)), (12, .own 3 _), (13, .d (.int _ _))] ⟨rfl, rfl, rfl, rfl, rfl, trivial⟩ ?_
                refine Runs.rseq ?_
                refine RO.opv (v' := .d (.int _ _)) (opv_move rfl) rfl ?_
                refine RO.opv (v' := .d (.bool false)) (opv_assign rfl) rfl ?_
                refine RO.opv (v' := .d (.int _ _)) (opv_assign rfl) rfl ?_
                refine RO.opv (v' := .d (.int _ _)) (opv_assign rfl) rfl ?_
                refine RO.nil ?_
                refine Runs.ret ?_
                refine blockQ_ret ?_
                refine blockQ_ret ?_
                refine thenQ_ret ?_
                refine blockQ_ret ?_
                refine thenQ_ret ?_
                refine scope0Q_ret ?_
                refine EndQ.tmps3 (.inr rfl) rfl rfl rfl rfl 3 (by exact Nat.le_refl _) (by simp) ⟨trivial, trivial, trivial, trivial⟩ ⟨?_, ?_⟩
                · first
                    | (rw [hM, ← hR, hps, mt_nil]; done)
                    | (rw [hM, ← hR, hps, mt_nil]; rfl)
                    | (have hnone : meetT (sopen (C k) (x.s.wk a)).1 (sopen (C k) (x.s.wk b)).1 = none := (by unfold meetT; rw [if_neg (by rintro ⟨e1, e2, e3⟩; first | exact hA2 e1 | exact hB2 e2 | exact hN e3), if_neg (by rintro ⟨e1, e2, e3, e4⟩; first | exact hA3 e1 | exact hB3 e2 | exact hSn (by rw [e3]) | exact hLn (by rw [e4]))])
                       rw [hM, ← hR, hps, hm1, mt_none (hmw.trans (by rw [hnone]))]; done)
                    | (have hnone : meetT (sopen (C k) (x.s.wk a)).1 (sopen (C k) (x.s.wk b)).1 = none := (by unfold meetT; rw [if_neg (by rintro ⟨e1, e2, e3⟩; first | exact hA2 e1 | exact hB2 e2 | exact hN e3), if_neg (by rintro ⟨e1, e2, e3, e4⟩; first | exact hA3 e1 | exact hB3 e2 | exact hSn (by rw [e3]) | exact hLn (by rw [e4]))])
                       rw [hM, ← hR, hps, hm1, mt_none (hmw.trans (by rw [hnone]))]; first | rfl | (rw [hsame]; rfl))
                · first
                    | (rw [hM, ← hR, hps, mt_nil]; done)
                    | (rw [hM, ← hR, hps, mt_nil]; rfl)
                    | (have hnone : meetT (sopen (C k) (x.s.wk a)).1 (sopen (C k) (x.s.wk b)).1 = none := (by unfold meetT; rw [if_neg (by rintro ⟨e1, e2, e3⟩; first | exact hA2 e1 | exact hB2 e2 | exact hN e3), if_neg (by rintro ⟨e1, e2, e3, e4⟩; first | exact hA3 e1 | exact hB3 e2 | exact hSn (by rw [e3]) | exact hLn (by rw [e4]))])
                       rw [hM, ← hR, hps, hm1, mt_none (hmw.trans (by rw [hnone]))]; done)
                    | (have hnone : meetT (sopen (C k) (x.s.wk a)).1 (sopen (C k) (x.s.wk b)).1 = none := (by unfold meetT; rw [if_neg (by rintro ⟨e1, e2, e3⟩; first | exact hA2 e1 | exact hB2 e2 | exact hN e3), if_neg (by rintro ⟨e1, e2, e3, e4⟩; first | exact hA3 e1 | exact hB3 e2 | exact hSn (by rw [e3]) | exact hLn (by rw [e4]))])
                       rw [hM, ← hR, hps, hm1, mt_none (hmw.trans (by rw [hnone]))]; first | rfl | (rw [hsame]; rfl))
            · try simp only [decide_eq_true_eq, decide_eq_false_iff_not, beq_iff_eq, beq_eq_false_iff_ne, bne_iff_ne, bne_eq_false_iff_eq, Int.not_lt, Int.not_le, ne_eq, Bool.not_eq_true', Bool.not_eq_false', gt_iff_lt, ge_iff_le] at h17
              have hA3 := h17
              refine RO.off rfl ?_
              refine RO.off rfl ?_
              refine RO.off rfl ?_
              refine RO.opv (v' := .d (.bool false)) (opv_pick rfl rfl) rfl ?_
              refine RO.opv (v' := .d (.bool false)) (opv_move rfl) rfl ?_
              refine RO.off rfl ?_
              refine RO.off rfl ?_
              refine RO.off rfl ?_
              refine RO.off rfl ?_
              refine RO.off rfl ?_
              refine RO.opv (v' := .d (.bool false)) (opv_pick rfl rfl) rfl ?_
              refine RO.opv (v' := .d (.bool false)) (opv_move rfl) rfl ?_
              refine RO.off rfl ?_
              refine RO.off rfl ?_
              refine RO.off rfl ?_
              refine RO.off rfl ?_
              refine RO.off rfl ?_
              refine RO.off rfl ?_
              refine RO.off rfl ?_
              refine RO.opv (v' := .d (.bool false)) (opv_pick rfl rfl) rfl ?_
              refine RO.opv (v' := .d (.bool false)) (opv_assign rfl) rfl ?_
              refine RO.nil ?_
              refine Runs.condF rfl ?_
              refine Runs.has [(0, .ref 2 0), (1, .d (encL _)), (11, .d (.int _ _)), (12, .own 3 _), (13, .d (.int _ _))] ⟨rfl, rfl, rfl, rfl, rfl, trivial⟩ ?_
              refine Runs.rseq ?_
              refine RO.opv (v' := .d (.int _ _)) (opv_move rfl) rfl ?_
              refine RO.opv (v' := .d (.bool false)) (opv_assign rfl) rfl ?_
              refine RO.opv (v' := .d (.int _ _)) (opv_assign rfl) rfl ?_
              refine RO.opv (v' := .d (.int _ _)) (opv_assign rfl) rfl ?_
              refine RO.nil ?_
              refine Runs.ret ?_
              refine blockQ_ret ?_
              refine blockQ_ret ?_
              refine thenQ_ret ?_
              refine blockQ_ret ?_
              refine thenQ_ret ?_
              refine scope0Q_ret ?_
              refine EndQ.tmps3 (.inr rfl) rfl rfl rfl rfl 3 (by exact Nat.le_refl _) (by simp) ⟨trivial, trivial, trivial, trivial⟩ ⟨?_, ?_⟩
              · first
                  | (rw [hM, ← hR, hps, mt_nil]; done)
                  | (rw [hM, ← hR, hps, mt_nil]; rfl)
                  | (have hnone : meetT (sopen (C k) (x.s.wk a)).1 (sopen (C k) (x.s.wk b)).1 = none := (by unfold meetT; rw [if_neg (by rintro ⟨e1, e2, e3⟩; first | exact hA2 e1 | exact hB2 e2 | exact hN e3), if_neg (by rintro ⟨e1, e2, e3, e4⟩; first | exact hA3 e1 | exact hB3 e2 | exact hSn (by rw [e3]) | exact hLn (by rw [e4]))])
                     rw [hM, ← hR, hps, hm1, mt_none (hmw.trans (by rw [hnone]))]; done)
                  | (have hnone : meetT (sopen (C k) (x.s.wk a)).1 (sopen (C k) (x.s.wk b)).1 = none := (by unfold meetT; rw [if_neg (by rintro ⟨e1, e2, e3⟩; first | exact hA2 e1 | exact hB2 e2 | exact hN e3), if_neg (by rintro ⟨e1, e2, e3, e4⟩; first | exact hA3 e1 | exact hB3 e2 | exact hSn (by rw [e3]) | exact hLn (by rw [e4]))])
                     rw [hM, ← hR, hps, hm1, mt_none (hmw.trans (by rw [hnone]))]; first | rfl | (rw [hsame]; rfl))
              · first
                  | (rw [hM, ← hR, hps, mt_nil]; done)
                  | (rw [hM, ← hR, hps, mt_nil]; rfl)
                  | (have hnone : meetT (sopen (C k) (x.s.wk a)).1 (sopen (C k) (x.s.wk b)).1 = none := (by unfold meetT; rw [if_neg (by rintro ⟨e1, e2, e3⟩; first | exact hA2 e1 | exact hB2 e2 | exact hN e3), if_neg (by rintro ⟨e1, e2, e3, e4⟩; first | exact hA3 e1 | exact hB3 e2 | exact hSn (by rw [e3]) | exact hLn (by rw [e4]))])
                     rw [hM, ← hR, hps, hm1, mt_none (hmw.trans (by rw [hnone]))]; done)
                  | (have hnone : meetT (sopen (C k) (x.s.wk a)).1 (sopen (C k) (x.s.wk b)).1 = none := (by unfold meetT; rw [if_neg (by rintro ⟨e1, e2, e3⟩; first | exact hA2 e1 | exact hB2 e2 | exact hN e3), if_neg (by rintro ⟨e1, e2, e3, e4⟩; first | exact hA3 e1 | exact hB3 e2 | exact hSn (by rw [e3]) | exact hLn (by rw [e4]))])
                     rw [hM, ← hR, hps, hm1, mt_none (hmw.trans (by rw [hnone]))]; first | rfl | (rw [hsame]; rfl))
    · try simp only [decide_eq_true_eq, decide_eq_false_iff_not, beq_iff_eq, beq_eq_false_iff_ne, bne_iff_ne, bne_eq_false_iff_eq, Int.not_lt, Int.not_le, ne_eq, Bool.not_eq_true', Bool.not_eq_false', gt_iff_lt, ge_iff_le] at h2
      have hps : x.ps = [] := by
        rcases hq : x.ps with _ | ⟨q, qs⟩
        · rfl
        · rw [hq] at h2; simp at h2; omega
      refine RO.nil ?_
      refine Runs.condF rfl ?_
      refine Runs.exit ?_
      refine thenQ_exit ?_
      refine thenQ_exit ?_
      refine blockQ_here ?_
      refine thenQ_normal ?_
      refine Runs.has [(11, .d (.int _ _))] ⟨rfl, trivial⟩ ?_
      refine Runs.rseq ?_
      refine RO.opv (v' := .d (.int _ _)) (opv_move rfl) rfl ?_
      refine RO.opv (v' := .d (.bool true)) (opv_assign rfl) rfl ?_
      refine RO.opv (v' := .d (.int _ _)) (opv_assign rfl) rfl ?_
      refine RO.opv (v' := .d (.int _ _)) (opv_assign rfl) rfl ?_
      refine RO.nil ?_
      refine Runs.ret ?_
      refine scope0Q_ret ?_
      refine EndQ.tmps3 (.inr rfl) rfl rfl rfl rfl 3 (by exact Nat.le_refl _) (by simp) ⟨trivial, trivial, trivial, trivial⟩ ⟨?_, ?_⟩
      · first
          | (rw [hM, ← hR, hps, mt_nil]; done)
          | (rw [hM, ← hR, hps, mt_nil]; rfl)
          | (have hnone : meetT (sopen (C k) (x.s.wk a)).1 (sopen (C k) (x.s.wk b)).1 = none := (by unfold meetT; rw [if_neg (by rintro ⟨e1, e2, e3⟩; first | exact hA2 e1 | exact hB2 e2 | exact hN e3), if_neg (by rintro ⟨e1, e2, e3, e4⟩; first | exact hA3 e1 | exact hB3 e2 | exact hSn (by rw [e3]) | exact hLn (by rw [e4]))])
             rw [hM, ← hR, hps, hm1, mt_none (hmw.trans (by rw [hnone]))]; done)
          | (have hnone : meetT (sopen (C k) (x.s.wk a)).1 (sopen (C k) (x.s.wk b)).1 = none := (by unfold meetT; rw [if_neg (by rintro ⟨e1, e2, e3⟩; first | exact hA2 e1 | exact hB2 e2 | exact hN e3), if_neg (by rintro ⟨e1, e2, e3, e4⟩; first | exact hA3 e1 | exact hB3 e2 | exact hSn (by rw [e3]) | exact hLn (by rw [e4]))])
             rw [hM, ← hR, hps, hm1, mt_none (hmw.trans (by rw [hnone]))]; first | rfl | (rw [hsame]; rfl))
      · first
          | (rw [hM, ← hR, hps, mt_nil]; done)
          | (rw [hM, ← hR, hps, mt_nil]; rfl)
          | (have hnone : meetT (sopen (C k) (x.s.wk a)).1 (sopen (C k) (x.s.wk b)).1 = none := (by unfold meetT; rw [if_neg (by rintro ⟨e1, e2, e3⟩; first | exact hA2 e1 | exact hB2 e2 | exact hN e3), if_neg (by rintro ⟨e1, e2, e3, e4⟩; first | exact hA3 e1 | exact hB3 e2 | exact hSn (by rw [e3]) | exact hLn (by rw [e4]))])
             rw [hM, ← hR, hps, hm1, mt_none (hmw.trans (by rw [hnone]))]; done)
          | (have hnone : meetT (sopen (C k) (x.s.wk a)).1 (sopen (C k) (x.s.wk b)).1 = none := (by unfold meetT; rw [if_neg (by rintro ⟨e1, e2, e3⟩; first | exact hA2 e1 | exact hB2 e2 | exact hN e3), if_neg (by rintro ⟨e1, e2, e3, e4⟩; first | exact hA3 e1 | exact hB3 e2 | exact hSn (by rw [e3]) | exact hLn (by rw [e4]))])
             rw [hM, ← hR, hps, hm1, mt_none (hmw.trans (by rw [hnone]))]; first | rfl | (rw [hsame]; rfl))
theorem unify_fn (k : Nat) (hk : k < 16) (s : St) (hs0 : Sg k s) (a b : Term) (ha : Gd k a) (hb : Gd k b) : Fn Try.prog 14 [.ref 2 0, .d (encL (C k)), .d (enc a), .d (enc b)] [.buf 88 5 (encCells (s).cs) (s).v1, .buf 3 1 (ints (s).tr) (s).v2, .cells [.own 0 (s).v1, .own 1 (s).v2]] (.tup [.d (.bool (matchS (C k) s [a] [b]).2.1), .d (.int .i64 (matchS (C k) s [a] [b]).2.2.1), .d (.int .i64 (matchS (C k) s [a] [b]).2.2.2)]) [.buf 88 5 (encCells ((matchS (C k) s [a] [b]).1).cs) ((matchS (C k) s [a] [b]).1).v1, .buf 3 1 (ints ((matchS (C k) s [a] [b]).1).tr) ((matchS (C k) s [a] [b]).1).v2, .cells [.own 0 ((matchS (C k) s [a] [b]).1).v1, .own 1 ((matchS (C k) s [a] [b]).1).v2]] := by
  refine Does.run Try.func14 rfl Try.ntmps14 rfl fun K hK => ?_
  refine Runs.rseq ?_
  refine RO.opn (v' := .ref 3 0) (O' := [_, _, _, _]) (opv_box_term rfl) rfl rfl ?_
  refine RO.opn (v' := .ref 4 0) (O' := [_, _, _, _, _]) (opv_box_term rfl) rfl rfl ?_
  refine RO.opv (v' := .d (.bool false)) (opv_assign rfl) rfl ?_
  refine RO.opv (v' := .d (.int _ _)) (opv_assign rfl) rfl ?_
  refine RO.opv (v' := .d (.int _ _)) (opv_assign rfl) rfl ?_
  refine RO.nil ?_
  refine Runs.has [(0, .ref 2 0), (1, .d (encL _)), (6, .ref 3 0), (7, .ref 4 0), (8, .d (.bool false)), (9, .d (.int _ _)), (10, .d (.int _ _))] ⟨rfl, rfl, rfl, rfl, rfl, rfl, rfl, trivial⟩ ?_
  refine Runs.rseq ?_
  refine RO.opv (v' := .ref 2 0) (opv_move rfl) rfl ?_
  refine RO.opv (v' := .d (encL _)) (opv_move rfl) rfl ?_
  refine RO.opv (v' := .d (enc _)) (opv_load_term rfl rfl rfl) rfl ?_
  refine RO.opv (v' := .d (.list (encs _))) (opv_bs_term1 rfl ) rfl ?_
  refine RO.opv (v' := .d (enc _)) (opv_load_term rfl rfl rfl) rfl ?_
  refine RO.opv (v' := .d (.list (encs _))) (opv_bs_term1 rfl ) rfl ?_
  refine RO.opn (O' := [_, _, _, _, _]) (opv_callP 3 (match_fn k hk s hs0 [a] [b] (fun p hp => by simp at hp; rw [hp]; exact ⟨ha, hb⟩) (Nat.le_of_ble_eq_true rfl) (Nat.le_of_ble_eq_true rfl)) rfl rfl (Nat.le_of_ble_eq_true rfl) rfl (AV.bds_of_B _ rfl)) rfl rfl ?_
  refine RO.opv (v' := .d (.bool _)) (opv_extract rfl rfl) rfl ?_
  refine RO.opv (v' := .d (.int _ _)) (opv_extract rfl rfl) rfl ?_
  refine RO.opv (v' := .d (.int _ _)) (opv_extract rfl rfl) rfl ?_
  refine RO.opv (v' := .d (.bool _)) (opv_assign rfl) rfl ?_
  refine RO.opv (v' := .d (.int _ _)) (opv_assign rfl) rfl ?_
  refine RO.opv (v' := .d (.int _ _)) (opv_assign rfl) rfl ?_
  refine RO.nil ?_
  refine Runs.ret ?_
  refine EndQ.tmps3 (.inr rfl) rfl rfl rfl rfl 3 (by exact Nat.le_refl _) (by simp) ⟨trivial, trivial, trivial, trivial⟩ ⟨?_, rfl⟩
  rfl
end Go.Proofs.Ytegfpnpghfcopaa.AM
