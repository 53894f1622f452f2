import Derived.Test.YtegfpnpghfcopaaUg
import Derived.Test.YtegfpnpghfcopaaU3
namespace Go.Proofs.Ytegfpnpghfcopaa.AM
open Go
set_option linter.unusedVariables false
set_option linter.unusedSimpArgs false
theorem chainp_fn (k : Nat) (hk : k < 16) : Fn Try.prog 11 [.d (.int .i64 ((k + 1 : Nat) : Int))] [] (.d (.list (encPs (chainP k)))) [] := by
  refine Does.run Try.func11 rfl Try.ntmps11 rfl fun K hK => ?_
  refine Runs.rseq ?_
  refine RO.opv (v' := .nil0) (opv_assign rfl) rfl ?_
  refine RO.nil ?_
  refine Runs.rseq ?_
  refine RO.opv (v' := .nil0) (opv_assign rfl) rfl ?_
  refine RO.nil ?_
  refine Runs.seq ?_
  refine Runs.adopt 3 62 2 rfl ?_
  refine Runs.rseq ?_
  refine RO.opv (v' := .d (.int _ _)) (opv_assign rfl) rfl ?_
  refine RO.nil ?_
  refine Runs.block ?_
  refine Runs.loopC (X := Nat) (fun i => i ≤ k) (fun i => k - i) [(0, .d (.int _ _)), (2, .nil0)] (fun i => [(3, .own 0 (1 + i)), (4, .d (.int .i64 ((i + 1 : Nat) : Int)))]) [] (fun i => [.buf 62 2 (encPs (chainP i)) (1 + i)]) (0) ⟨rfl, rfl, trivial⟩ ⟨rfl, rfl, trivial⟩ rfl (by omega) fun i hi => ?_
  refine Runs.seq ?_
  refine Runs.rseq ?_
  refine RO.opv (v' := .d (.int _ _)) (opv_move rfl) rfl ?_
  refine RO.opv (v' := .d (.int _ _)) (opv_move rfl) rfl ?_
  refine RO.opc (opv_bin rfl rfl rfl) (fun h1 => ?_) (fun h1 => ?_)
  · try simp only [decide_eq_true_eq, decide_eq_false_iff_not, beq_iff_eq, beq_eq_false_iff_ne, bne_iff_ne, bne_eq_false_iff_eq, Int.not_lt, Int.not_le, ne_eq, Bool.not_eq_true', Bool.not_eq_false', gt_iff_lt, ge_iff_le] at h1
    have hl : i < k := by omega
    refine RO.nil ?_
    refine Runs.condT rfl ?_
    refine Runs.skip ?_
    refine thenQ_normal ?_
    refine Runs.has [(0, .d (.int _ _)), (2, .nil0), (3, .own 0 _), (4, .d (.int _ _))] ⟨rfl, rfl, rfl, rfl, trivial⟩ ?_
    refine Runs.seq ?_
    refine Runs.block ?_
    refine Runs.region ?_
    refine RO.opv (v' := .own 0 _) (opv_move rfl) rfl ?_
    refine RO.opv (v' := .d (.int _ _)) (opv_move rfl) rfl ?_
    refine RO.opv (v' := .d (.int _ _)) (opv_arith (r := ((i : Nat) : Int)) rfl rfl (by simp only [binD, if_true]; rw [wrap64 (by omega) (by omega)]; congr 2; omega)) rfl ?_
    refine RO.opv (v' := .d (.int _ _)) (opv_move rfl) rfl ?_
    refine RO.opv (v' := .d (encP _)) (opv_build_pair rfl rfl rfl) rfl ?_
    refine RO.opv (v' := .d (.list _)) (opv_buildSlice rfl rfl rfl rfl) rfl ?_
    refine RO.opn (v' := .own 0 _) (O' := [_]) (opv_append_own rfl rfl rfl rfl rfl rfl (by simp; rfl) (by rw [encPs_len, chainP_len]; simp; omega)) rfl rfl ?_
    refine RO.opv (v' := .own 0 _) (opv_assign rfl) rfl ?_
    refine RO.nil ?_
    refine blockQ_normal ?_
    refine thenQ_normal ?_
    refine Runs.has [(0, .d (.int _ _)), (2, .nil0), (3, .own 0 _), (4, .d (.int _ _))] ⟨rfl, rfl, rfl, rfl, trivial⟩ ?_
    refine Runs.region ?_
    refine RO.opv (v' := .d (.int _ _)) (opv_move rfl) rfl ?_
    refine RO.opv (v' := .d (.int _ _)) (opv_bin rfl rfl rfl) rfl ?_
    refine RO.opv (v' := .d (.int _ _)) (opv_assign rfl) rfl ?_
    refine RO.nil ?_
    refine thenQ_normal ?_
    refine ⟨i + 1, 1, (by rw [hK]; exact Nat.le_of_ble_eq_true rfl), ⟨rfl, rfl, trivial⟩, ⟨?_, ?_, trivial⟩, ?_, ?_, ?_⟩
    · rfl
    · refine int_eq ?_; rw [wrap64 (by omega) (by omega)]; omega
    · rw [chainP_succ]; rfl
    · omega
    · omega
  · try simp only [decide_eq_true_eq, decide_eq_false_iff_not, beq_iff_eq, beq_eq_false_iff_ne, bne_iff_ne, bne_eq_false_iff_eq, Int.not_lt, Int.not_le, ne_eq, Bool.not_eq_true', Bool.not_eq_false', gt_iff_lt, ge_iff_le] at h1
    have hl : i = k := by omega
    refine RO.nil ?_
    refine Runs.condF rfl ?_
    refine Runs.exit ?_
    refine thenQ_exit ?_
    refine thenQ_exit ?_
    refine blockQ_here ?_
    refine thenQ_normal ?_
    refine Runs.has [(2, .nil0), (3, .own 0 _)] ⟨rfl, rfl, trivial⟩ ?_
    refine Runs.shut 3 rfl rfl ?_
    refine Runs.rseq ?_
    refine RO.opv (v' := .d (.list (encPs _))) (opv_move rfl) rfl ?_
    refine RO.opv (v' := .d (.list (encPs _))) (opv_assign rfl) rfl ?_
    refine RO.nil ?_
    refine Runs.ret ?_
    refine EndQ.tmp (.inr rfl) rfl rfl 0 (by exact Nat.le_refl _) (by exact Nat.zero_le _) trivial ⟨?_, rfl⟩
    rw [hl]; rfl
theorem lnewC_fn (k : Nat) (hk : k < 16) : Fn Try.prog 10 [.d (.int .i64 ((k + 1 : Nat) : Int)), .d (.list (encPs (chainP k)))] [] (.tup [.d (encL (C k)), .d (.int .i64 0)]) [] := by
  have h := lnew_fn ((k + 1 : Nat) : Int) (chainP k) (by rw [chainP_len]; omega)
  rw [newL_chain hk] at h
  exact h
theorem few_fn (t : Term) (hb : t.bulk ≤ 2 ^ 30) : Fn Try.prog 37 [.d (enc t)] [] (.d (.bool (decide ((t.size : Int) ≤ 200)))) [] := by
  refine Does.run Try.func37 rfl Try.ntmps37 rfl fun K hK => ?_
  refine Runs.rseq ?_
  refine RO.opn (v' := .ref 0 0) (O' := [_]) (opv_box_term rfl) rfl rfl ?_
  refine RO.opv (v' := .d (.bool false)) (opv_assign rfl) rfl ?_
  refine RO.nil ?_
  refine Runs.has [(1, .ref 0 0), (2, .d (.bool false))] ⟨rfl, rfl, trivial⟩ ?_
  refine Runs.rseq ?_
  refine RO.opv (v' := .d (enc _)) (opv_load_term rfl rfl rfl) rfl ?_
  refine RO.opv (v' := .d (.int _ _)) (opv_callF (rsize_fn t hb) rfl rfl rfl trivial) rfl ?_
  refine RO.opv (v' := .d (.bool _)) (opv_bin rfl rfl rfl) rfl ?_
  refine RO.opv (v' := .d (.bool _)) (opv_assign rfl) rfl ?_
  refine RO.nil ?_
  refine Runs.ret ?_
  refine EndQ.tmp (.inr rfl) rfl rfl 0 (by exact Nat.le_refl _) (by exact Nat.zero_le _) trivial ⟨?_, rfl⟩
  rfl
theorem svars_fn  : Fn Try.prog 12 [] [] (.ref 2 0) [.buf 88 5 (encCells (sv).cs) (sv).v1, .buf 3 1 (ints (sv).tr) (sv).v2, .cells [.own 0 (sv).v1, .own 1 (sv).v2]] := by
  refine Does.run Try.func12 rfl Try.ntmps12 rfl fun K hK => ?_
  refine Runs.rseq ?_
  refine RO.opv (v' := .d .nilp) (opv_assign rfl) rfl ?_
  refine RO.nil ?_
  refine Runs.rseq ?_
  refine RO.opn (v' := .ref 2 0) (O' := [_, _, _]) (opv_call rfl rfl (new_fn)) rfl rfl ?_
  refine RO.opv (v' := .ref 2 0) (opv_assign rfl) rfl ?_
  refine RO.nil ?_
  refine Runs.has [(0, .d .nilp), (1, .ref 2 0)] ⟨rfl, rfl, trivial⟩ ?_
  refine Runs.rseq ?_
  refine RO.opv (v' := .ref 2 0) (opv_move rfl) rfl ?_
  refine RO.opn (O' := [_, _, _]) (opv_callP 3 (fresh_fn e0 12 (Nat.zero_le _)) rfl rfl (Nat.le_of_ble_eq_true rfl) rfl (AV.bds_of_B _ rfl)) rfl rfl ?_
  refine RO.nil ?_
  refine Runs.has [(0, .d .nilp), (1, .ref 2 0)] ⟨rfl, rfl, trivial⟩ ?_
  refine Runs.rseq ?_
  refine RO.opv (v' := .ref 2 0) (opv_move rfl) rfl ?_
  refine RO.opv (v' := .ref 2 0) (opv_assign rfl) rfl ?_
  refine RO.nil ?_
  refine Runs.ret ?_
  refine EndQ.tmp (.inr rfl) rfl rfl 3 (by simp) (by simp) (Nat.lt_succ_self 2) ⟨?_, ?_⟩
  · rfl
  · rfl
theorem may_fn (t : Term) (hb : t.bulk ≤ 2 ^ 20) : Fn Try.prog 13 [.d (enc t)] [] (.d (.bool (mayB t))) [] := by
  have hvs := vars_size t
  have hss := t.size_bulk
  refine Does.run Try.func13 rfl Try.ntmps13 rfl fun K hK => ?_
  refine Runs.rseq ?_
  refine RO.opn (v' := .ref 0 0) (O' := [_]) (opv_box_term rfl) rfl rfl ?_
  refine RO.opv (v' := .d (.bool false)) (opv_assign rfl) rfl ?_
  refine RO.nil ?_
  refine Runs.has [(1, .ref 0 0), (2, .d (.bool false))] ⟨rfl, rfl, trivial⟩ ?_
  refine Runs.rseq ?_
  refine RO.opv (v' := .d (enc _)) (opv_load_term rfl rfl rfl) rfl ?_
  refine RO.opv (v' := .d (.list (ints _))) (opv_callF (rvars_fn t (by omega)) rfl rfl rfl trivial) rfl ?_
  refine RO.opv (v' := .d (.list (ints _))) (opv_assign rfl) rfl ?_
  refine RO.nil ?_
  refine Runs.has [(1, .ref 0 0), (2, .d (.bool false)), (3, .d (.list (ints _)))] ⟨rfl, rfl, rfl, trivial⟩ ?_
  refine Runs.seq ?_
  refine Runs.rseq ?_
  refine RO.opv (v' := .d (.int _ _)) (opv_assign rfl) rfl ?_
  refine RO.nil ?_
  refine Runs.block ?_
  refine Runs.loopC (X := Nat) (fun i => i ≤ t.vars.length ∧ (t.vars.take i).all (fun v => decide (v < 12)) = true) (fun i => t.vars.length - i) [(1, .ref 0 0), (3, .d (.list (ints _)))] (fun i => [(4, .d (.int .i64 (i : Nat)))]) [_] (fun i => []) (0) ⟨rfl, rfl, trivial⟩ ⟨rfl, trivial⟩ rfl ⟨Nat.zero_le _, by simp⟩ fun i hi => ?_
  refine Runs.seq ?_
  refine Runs.rseq ?_
  refine RO.opv (v' := .d (.int _ _)) (opv_move rfl) rfl ?_
  refine RO.opv (v' := .d (.list (ints _))) (opv_move rfl) rfl ?_
  refine RO.opv (v' := .d (.int _ _)) (opv_len_ints rfl) rfl ?_
  refine RO.opc (opv_bin rfl rfl rfl) (fun h1 => ?_) (fun h1 => ?_)
  · try simp only [decide_eq_true_eq, decide_eq_false_iff_not, beq_iff_eq, beq_eq_false_iff_ne, bne_iff_ne, bne_eq_false_iff_eq, Int.not_lt, Int.not_le, ne_eq, Bool.not_eq_true', Bool.not_eq_false', gt_iff_lt, ge_iff_le] at h1
    have hk : i < t.vars.length := by omega
    refine RO.nil ?_
    refine Runs.condT rfl ?_
    refine Runs.skip ?_
    refine thenQ_normal ?_
    refine Runs.has [(1, .ref 0 0), (3, .d (.list (ints _))), (4, .d (.int _ _))] ⟨rfl, rfl, rfl, trivial⟩ ?_
    refine Runs.seq ?_
    refine Runs.block ?_
    refine Runs.rseq ?_
    refine RO.opv (v' := .d (.list (ints _))) (opv_move rfl) rfl ?_
    refine RO.opv (v' := .d (.int _ _)) (opv_move rfl) rfl ?_
    refine RO.opv (v' := .d (.ptr _)) (opv_index_ints rfl rfl (by omega)) rfl ?_
    refine RO.opv (v' := .d (.int _ _)) (opv_load_ptr rfl rfl) rfl ?_
    refine RO.opc (opv_bin rfl rfl rfl) (fun h2 => ?_) (fun h2 => ?_)
    · try simp only [decide_eq_true_eq, decide_eq_false_iff_not, beq_iff_eq, beq_eq_false_iff_ne, bne_iff_ne, bne_eq_false_iff_eq, Int.not_lt, Int.not_le, ne_eq, Bool.not_eq_true', Bool.not_eq_false', gt_iff_lt, ge_iff_le] at h2
      have hv := h2
      refine RO.nil ?_
      refine Runs.condT rfl ?_
      refine Runs.has [(1, .ref 0 0), (3, .d (.list (ints _))), (4, .d (.int _ _))] ⟨rfl, rfl, rfl, trivial⟩ ?_
      refine Runs.rseq ?_
      refine RO.opv (v' := .d (.bool false)) (opv_assign rfl) rfl ?_
      refine RO.nil ?_
      refine Runs.ret ?_
      refine blockQ_ret ?_
      refine thenQ_ret ?_
      refine thenQ_ret ?_
      refine blockQ_ret ?_
      refine thenQ_ret ?_
      refine EndQ.tmp (.inr rfl) rfl rfl 0 (by exact Nat.le_refl _) (by exact Nat.zero_le _) trivial ⟨?_, rfl⟩
      refine bool_eq ?_; exact (may_no hk hv).symm
    · try simp only [decide_eq_true_eq, decide_eq_false_iff_not, beq_iff_eq, beq_eq_false_iff_ne, bne_iff_ne, bne_eq_false_iff_eq, Int.not_lt, Int.not_le, ne_eq, Bool.not_eq_true', Bool.not_eq_false', gt_iff_lt, ge_iff_le] at h2
      have hv := h2
      refine RO.nil ?_
      refine Runs.condF rfl ?_
      refine Runs.skip ?_
      refine blockQ_normal ?_
      refine thenQ_normal ?_
      refine Runs.has [(1, .ref 0 0), (3, .d (.list (ints _))), (4, .d (.int _ _))] ⟨rfl, rfl, rfl, trivial⟩ ?_
      refine Runs.region ?_
      refine RO.opv (v' := .d (.int _ _)) (opv_move rfl) rfl ?_
      refine RO.opv (v' := .d (.int _ _)) (opv_bin rfl rfl rfl) rfl ?_
      refine RO.opv (v' := .d (.int _ _)) (opv_assign rfl) rfl ?_
      refine RO.nil ?_
      refine thenQ_normal ?_
      refine ⟨i + 1, 1, (by rw [hK]; exact Nat.le_of_ble_eq_true rfl), ⟨rfl, rfl, trivial⟩, ⟨?_, trivial⟩, rfl, ?_, ?_⟩
      · refine int_eq ?_; rw [wrap64 (by omega) (by omega)]; omega
      · refine ⟨by omega, ?_⟩
        rw [List.take_succ_eq_append_getElem hk, List.all_append, hi.2]; simp; omega
      · omega
  · try simp only [decide_eq_true_eq, decide_eq_false_iff_not, beq_iff_eq, beq_eq_false_iff_ne, bne_iff_ne, bne_eq_false_iff_eq, Int.not_lt, Int.not_le, ne_eq, Bool.not_eq_true', Bool.not_eq_false', gt_iff_lt, ge_iff_le] at h1
    have hk : i = t.vars.length := by omega
    refine RO.nil ?_
    refine Runs.condF rfl ?_
    refine Runs.exit ?_
    refine thenQ_exit ?_
    refine thenQ_exit ?_
    refine blockQ_here ?_
    refine thenQ_normal ?_
    refine Runs.has [(1, .ref 0 0)] ⟨rfl, trivial⟩ ?_
    refine Runs.rseq ?_
    refine RO.opv (v' := .d (enc _)) (opv_load_term rfl rfl rfl) rfl ?_
    refine RO.opv (v' := .d (.bool _)) (opv_callF (few_fn t (by omega)) rfl rfl rfl trivial) rfl ?_
    refine RO.opc (opv_move rfl) (fun h3 => ?_) (fun h3 => ?_)
    · try simp only [decide_eq_true_eq, decide_eq_false_iff_not, beq_iff_eq, beq_eq_false_iff_ne, bne_iff_ne, bne_eq_false_iff_eq, Int.not_lt, Int.not_le, ne_eq, Bool.not_eq_true', Bool.not_eq_false', gt_iff_lt, ge_iff_le] at h3
      have hf := h3
      refine RO.opgv (v' := .d (enc _)) rfl (opv_load_term rfl rfl rfl) rfl ?_
      refine RO.opgv (v' := .d (.int _ _)) rfl (opv_callF (check_fn t 9 (by omega)) rfl rfl rfl trivial) rfl ?_
      refine RO.opgv (v' := .d (.bool _)) rfl (opv_bin rfl rfl rfl) rfl ?_
      refine RO.opv (v' := .d (.bool _)) (opv_pick rfl rfl) rfl ?_
      refine RO.opv (v' := .d (.bool _)) (opv_assign rfl) rfl ?_
      refine RO.nil ?_
      refine Runs.ret ?_
      refine EndQ.tmp (.inr rfl) rfl rfl 0 (by exact Nat.le_refl _) (by exact Nat.zero_le _) trivial ⟨?_, rfl⟩
      refine bool_eq ?_; have ha := hi.2; rw [hk, List.take_length] at ha; unfold mayB; rw [ha, decide_eq_true hf]; rfl
    · try simp only [decide_eq_true_eq, decide_eq_false_iff_not, beq_iff_eq, beq_eq_false_iff_ne, bne_iff_ne, bne_eq_false_iff_eq, Int.not_lt, Int.not_le, ne_eq, Bool.not_eq_true', Bool.not_eq_false', gt_iff_lt, ge_iff_le] at h3
      have hf := h3
      refine RO.off rfl ?_
      refine RO.off rfl ?_
      refine RO.off rfl ?_
      refine RO.opv (v' := .d (.bool false)) (opv_pick rfl rfl) rfl ?_
      refine RO.opv (v' := .d (.bool false)) (opv_assign rfl) rfl ?_
      refine RO.nil ?_
      refine Runs.ret ?_
      refine EndQ.tmp (.inr rfl) rfl rfl 0 (by exact Nat.le_refl _) (by exact Nat.zero_le _) trivial ⟨?_, rfl⟩
      refine bool_eq ?_; have ha := hi.2; rw [hk, List.take_length] at ha; unfold mayB; rw [ha, decide_eq_false (by omega)]; rfl
def ua : Term := .node 3 0 ⟨#[97]⟩ []
def ub : Term := .node 3 0 ⟨#[98]⟩ []
def u1 : Term := .node 3 0 ⟨#[102]⟩ [lets 0, ub]
def u2 : Term := .node 3 0 ⟨#[102]⟩ [putS ua 1, lets 1]
def u3 : Term := .node 3 0 ⟨#[102]⟩ [putS ua 1]
def u4 : Term := .node 3 0 ⟨#[102]⟩ [ua]
theorem u1_gd : Gd 3 u1 := ⟨by decide +kernel, Nat.le_of_ble_eq_true (by decide +kernel)⟩
theorem u2_gd : Gd 3 u2 := ⟨by decide +kernel, Nat.le_of_ble_eq_true (by decide +kernel)⟩
theorem u3_gd : Gd 3 u3 := ⟨by decide +kernel, Nat.le_of_ble_eq_true (by decide +kernel)⟩
theorem u4_gd : Gd 3 u4 := ⟨by decide +kernel, Nat.le_of_ble_eq_true (by decide +kernel)⟩
theorem e1_sg : Sg 3 e1 := ⟨e1_ok, fun n u h => by rw [show e1 = (e0.fresh 2).1 from rfl, fresh_at] at h; simp [St.at, e0] at h⟩
def w1 : St := (matchS (C 3) e1 [u1] [u2]).1
theorem w1_sg : Sg 3 w1 := (un_good (by decide) e1_sg u1_gd u2_gd).1
def w2 : St := (matchS (C 3) w1 [u3] [u4]).1
theorem w2_sg : Sg 3 w2 := (un_good (by decide) w1_sg u3_gd u4_gd).1
theorem shown_fn  : Fn Try.prog 9 [] [] (.d (.bool true)) [] := by
  refine Does.run Try.func9 rfl Try.ntmps9 rfl fun K hK => ?_
  refine Runs.rseq ?_
  refine RO.opv (v' := .d (.bool false)) (opv_assign rfl) rfl ?_
  refine RO.nil ?_
  refine Runs.rseq ?_
  refine RO.opv (v' := .d (.list (encPs _))) (opv_callF (chainp_fn 3 (by decide)) rfl rfl rfl trivial) rfl ?_
  refine RO.opv (opv_callF (lnewC_fn 3 (by decide)) rfl rfl rfl ⟨trivial, trivial, trivial⟩) rfl ?_
  refine RO.opv (opv_move rfl) rfl ?_
  refine RO.opv (v' := .d (encL _)) (opv_extract rfl rfl) rfl ?_
  refine RO.opv (v' := .d (.int _ _)) (opv_extract rfl rfl) rfl ?_
  refine RO.opv (v' := .d (encL _)) (opv_assign rfl) rfl ?_
  refine RO.opv (v' := .d (.int _ _)) (opv_assign rfl) rfl ?_
  refine RO.nil ?_
  refine Runs.has [(0, .d (.bool false)), (1, .d (encL _))] ⟨rfl, rfl, trivial⟩ ?_
  refine Runs.rseq ?_
  refine RO.opn (v' := .ref 2 0) (O' := [_, _, _]) (opv_call rfl rfl (new_fn)) rfl rfl ?_
  refine RO.opv (v' := .ref 2 0) (opv_assign rfl) rfl ?_
  refine RO.nil ?_
  refine Runs.has [(0, .d (.bool false)), (1, .d (encL _)), (3, .ref 2 0)] ⟨rfl, rfl, rfl, trivial⟩ ?_
  refine Runs.seq ?_
  refine Runs.rseq ?_
  refine RO.opv (v' := .d (encL _)) (opv_move rfl) rfl ?_
  refine RO.opv (v' := .d (.bool false)) (opv_eqnil rfl rfl rfl) rfl ?_
  refine RO.opv (v' := .d (.bool false)) (opv_move rfl) rfl ?_
  refine RO.opgv (v' := .ref 2 0) rfl (opv_move rfl) rfl ?_
  refine RO.opgv (v' := .d (.bool false)) rfl (opv_eqnil_ref rfl rfl rfl) rfl ?_
  refine RO.opv (v' := .d (.bool false)) (opv_pick rfl rfl) rfl ?_
  refine RO.nil ?_
  refine Runs.condF rfl ?_
  refine Runs.skip ?_
  refine thenQ_normal ?_
  refine Runs.has [(0, .d (.bool false)), (1, .d (encL _)), (3, .ref 2 0)] ⟨rfl, rfl, rfl, trivial⟩ ?_
  refine Runs.rseq ?_
  refine RO.opv (v' := .ref 2 0) (opv_move rfl) rfl ?_
  refine RO.opn (O' := [_, _, _]) (opv_callP 3 (fresh_fn e0 2 (Nat.zero_le _)) rfl rfl (Nat.le_of_ble_eq_true rfl) rfl (AV.bds_of_B _ rfl)) rfl rfl ?_
  refine RO.nil ?_
  refine Runs.has [(0, .d (.bool false)), (1, .d (encL _)), (3, .ref 2 0)] ⟨rfl, rfl, rfl, trivial⟩ ?_
  refine Runs.rseq ?_
  refine RO.opv (v' := .d (enc _)) (opv_callF (atom_fn ⟨#[97]⟩) rfl rfl rfl trivial) rfl ?_
  refine RO.opn (v' := .ref 3 0) (O' := [_, _, _, _]) (opv_alloc) rfl rfl ?_
  refine RO.op0n (O' := [_, _, _, _]) (opv_store_term rfl rfl rfl (Nat.le_of_ble_eq_true rfl)) rfl ?_
  refine RO.nil ?_
  refine Runs.has [(0, .d (.bool false)), (1, .d (encL _)), (3, .ref 2 0), (4, .ref 3 0)] ⟨rfl, rfl, rfl, rfl, trivial⟩ ?_
  refine Runs.seq ?_
  refine Runs.drawn (by kernel_rfl) [] [false, false, false, false, false, false, false, false, false, false, false, false, false, false, false, false, false, false, false] [false, false, false, false, false, false, false, false, false, false, false, true, false, false, false, false, false, false, false] (by decide +kernel) ?_
  refine RD.opv (v' := .ref 2 0) (opv_move rfl) rfl ?_
  refine RD.opv (v' := .d (encL _)) (opv_move rfl) rfl ?_
  refine RD.opv (v' := .d (enc _)) (opv_callF (let_fn _) rfl rfl rfl trivial) rfl ?_
  refine RD.opv (v' := .d (enc _)) (opv_callF (atom_fn ⟨#[98]⟩) rfl rfl rfl trivial) rfl ?_
  refine RD.opv (v' := .d (.list (encs _))) (opv_bs_term2 rfl rfl ) rfl ?_
  refine RD.opv (v' := .d (enc _)) (opv_callF (make_fn ⟨#[102]⟩ [lets 0, ub] (Nat.le_of_ble_eq_true rfl)) rfl rfl rfl trivial) rfl ?_
  refine RD.opv (v' := .d (enc _)) (opv_load_term rfl rfl rfl) rfl ?_
  refine RD.opv (v' := .d (enc _)) (opv_callF (putS_fn _ _) rfl rfl rfl trivial) rfl ?_
  refine RD.opv (v' := .d (enc _)) (opv_callF (let_fn _) rfl rfl rfl trivial) rfl ?_
  refine RD.opv (v' := .d (.list (encs _))) (opv_bs_term2 rfl rfl ) rfl ?_
  refine RD.opv (v' := .d (enc _)) (opv_callF (make_fn ⟨#[102]⟩ [putS ua 1, lets 1] (Nat.le_of_ble_eq_true rfl)) rfl rfl rfl trivial) rfl ?_
  refine RD.opn (O' := [_, _, _, _]) (opv_callP 3 (unify_fn 3 (by decide) e1 e1_sg u1 u2 u1_gd u2_gd) rfl rfl (Nat.le_of_ble_eq_true rfl) rfl (AV.bds_of_B _ rfl)) rfl rfl trivial ?_
  refine RD.opv (opv_move rfl) rfl ?_
  refine RD.opv (v' := .d (.bool _)) (opv_extract rfl rfl) rfl ?_
  refine RD.opv (v' := .d (.int _ _)) (opv_extract rfl rfl) rfl ?_
  refine RD.opv (v' := .d (.int _ _)) (opv_extract rfl rfl) rfl ?_
  refine RD.opv (v' := .d (.bool _)) (opv_assign rfl) rfl ?_
  refine RD.opv (v' := .d (.int _ _)) (opv_assign rfl) rfl ?_
  refine RD.opv (v' := .d (.int _ _)) (opv_assign rfl) rfl ?_
  refine RD.nil ?_
  refine thenQ_normal ?_
  refine Runs.has [(0, .d (.bool false)), (1, .d (encL _)), (3, .ref 2 0), (4, .ref 3 0), (5, .d (.bool _)), (6, .d (.int _ _)), (7, .d (.int _ _))] ⟨rfl, rfl, rfl, rfl, rfl, rfl, rfl, trivial⟩ ?_
  refine Runs.seq ?_
  refine Runs.drawn (by kernel_rfl) [] [false, false, false, false, false, false, false, false, false, false, false, false, false, false, false, false, false] [false, false, false, false, false, false, false, false, false, true, false, false, false, false, false, false, false] (by decide +kernel) ?_
  refine RD.opv (v' := .ref 2 0) (opv_move rfl) rfl ?_
  refine RD.opv (v' := .d (encL _)) (opv_move rfl) rfl ?_
  refine RD.opv (v' := .d (enc _)) (opv_load_term rfl rfl rfl) rfl ?_
  refine RD.opv (v' := .d (enc _)) (opv_callF (putS_fn _ _) rfl rfl rfl trivial) rfl ?_
  refine RD.opv (v' := .d (.list (encs _))) (opv_bs_term1 rfl ) rfl ?_
  refine RD.opv (v' := .d (enc _)) (opv_callF (make_fn ⟨#[102]⟩ [putS ua 1] (Nat.le_of_ble_eq_true rfl)) rfl rfl rfl trivial) rfl ?_
  refine RD.opv (v' := .d (enc _)) (opv_load_term rfl rfl rfl) rfl ?_
  refine RD.opv (v' := .d (.list (encs _))) (opv_bs_term1 rfl ) rfl ?_
  refine RD.opv (v' := .d (enc _)) (opv_callF (make_fn ⟨#[102]⟩ [ua] (Nat.le_of_ble_eq_true rfl)) rfl rfl rfl trivial) rfl ?_
  refine RD.opn (O' := [_, _, _, _]) (opv_callP 3 (unify_fn 3 (by decide) w1 w1_sg u3 u4 u3_gd u4_gd) rfl rfl (Nat.le_of_ble_eq_true rfl) rfl (AV.bds_of_B _ rfl)) rfl rfl trivial ?_
  refine RD.opv (opv_move rfl) rfl ?_
  refine RD.opv (v' := .d (.bool _)) (opv_extract rfl rfl) rfl ?_
  refine RD.opv (v' := .d (.int _ _)) (opv_extract rfl rfl) rfl ?_
  refine RD.opv (v' := .d (.int _ _)) (opv_extract rfl rfl) rfl ?_
  refine RD.opv (v' := .d (.bool _)) (opv_assign rfl) rfl ?_
  refine RD.opv (v' := .d (.int _ _)) (opv_assign rfl) rfl ?_
  refine RD.opv (v' := .d (.int _ _)) (opv_assign rfl) rfl ?_
  refine RD.nil ?_
  refine thenQ_normal ?_
  refine Runs.has [(0, .d (.bool false)), (3, .ref 2 0), (5, .d (.bool _)), (6, .d (.int _ _)), (7, .d (.int _ _)), (8, .d (.bool _)), (9, .d (.int _ _)), (10, .d (.int _ _))] ⟨rfl, rfl, rfl, rfl, rfl, rfl, rfl, rfl, trivial⟩ ?_
  refine Runs.rseq ?_
  refine RO.opv (v' := .d (.bool _)) (opv_move rfl) rfl ?_
  refine RO.opc (opv_move rfl) (fun h1 => ?_) (fun h1 => ?_)
  · skip
    refine RO.opgv (v' := .d (.bool _)) rfl (opv_move rfl) rfl ?_
    refine RO.opv (v' := .d (.bool _)) (opv_pick rfl rfl) rfl ?_
    refine RO.opc (opv_move rfl) (fun h2 => ?_) (fun h2 => ?_)
    · skip
      refine RO.opgv (v' := .d (.int _ _)) rfl (opv_move rfl) rfl ?_
      refine RO.opgv (v' := .d (.bool _)) rfl (opv_bin rfl rfl rfl) rfl ?_
      refine RO.opv (v' := .d (.bool _)) (opv_pick rfl rfl) rfl ?_
      refine RO.opc (opv_move rfl) (fun h3 => ?_) (fun h3 => ?_)
      · skip
        refine RO.opgv (v' := .d (.int _ _)) rfl (opv_move rfl) rfl ?_
        refine RO.opgv (v' := .d (.bool _)) rfl (opv_bin rfl rfl rfl) rfl ?_
        refine RO.opv (v' := .d (.bool _)) (opv_pick rfl rfl) rfl ?_
        refine RO.opc (opv_move rfl) (fun h4 => ?_) (fun h4 => ?_)
        · skip
          refine RO.opgv (v' := .d (.int _ _)) rfl (opv_move rfl) rfl ?_
          refine RO.opgv (v' := .d (.bool _)) rfl (opv_bin rfl rfl rfl) rfl ?_
          refine RO.opv (v' := .d (.bool _)) (opv_pick rfl rfl) rfl ?_
          refine RO.opc (opv_move rfl) (fun h5 => ?_) (fun h5 => ?_)
          · skip
            refine RO.opgv (v' := .d (.int _ _)) rfl (opv_move rfl) rfl ?_
            refine RO.opgv (v' := .d (.bool _)) rfl (opv_bin rfl rfl rfl) rfl ?_
            refine RO.opv (v' := .d (.bool _)) (opv_pick rfl rfl) rfl ?_
            refine RO.opc (opv_move rfl) (fun h6 => ?_) (fun h6 => ?_)
            · skip
              refine RO.opgv (v' := .ref 2 0) rfl (opv_move rfl) rfl ?_
              refine RO.opgv (v' := .d (enc _)) rfl (opv_callF (let_fn _) rfl rfl rfl trivial) rfl ?_
              refine RO.opgn (v' := .d (enc _)) (O' := [_, _, _, _]) rfl (opv_callP 3 (wk_fn w2 (lets 0) (w2_sg.ok.ends _)) rfl rfl (Nat.le_of_ble_eq_true rfl) rfl (AV.bds_of_B _ rfl)) rfl rfl ?_
              refine RO.opgv (v' := .d (.int _ _)) rfl (opv_field_kind rfl) rfl ?_
              refine RO.opgv (v' := .d (.bool _)) rfl (opv_bin rfl rfl rfl) rfl ?_
              refine RO.opv (v' := .d (.bool _)) (opv_pick rfl rfl) rfl ?_
              refine RO.opv (v' := .d (.bool _)) (opv_assign rfl) rfl ?_
              refine RO.nil ?_
              refine Runs.ret ?_
              refine EndQ.tmp (.inr rfl) rfl rfl 0 (by exact Nat.le_refl _) (by exact Nat.zero_le _) trivial ⟨?_, rfl⟩
              refine bool_eq ?_; decide +kernel
            · skip
              exact absurd h6 (by decide +kernel)
          · skip
            exact absurd h5 (by decide +kernel)
        · skip
          exact absurd h4 (by decide +kernel)
      · skip
        exact absurd h3 (by decide +kernel)
    · skip
      exact absurd h2 (by decide +kernel)
  · skip
    exact absurd h1 (by decide +kernel)
end Go.Proofs.Ytegfpnpghfcopaa.AM
