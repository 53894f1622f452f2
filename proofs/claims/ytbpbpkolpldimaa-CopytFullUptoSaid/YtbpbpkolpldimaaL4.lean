import Derived.Test.YtbpbpkolpldimaaL0
namespace Go.Proofs.Ytbpbpkolpldimaa.AM
open Go
set_option linter.unusedVariables false
set_option linter.unusedSimpArgs false
theorem copytFull_fn (t : Term) (m : Int) (g1 : t.bulk ≤ 2 ^ 20) (_g1' : t.fits) (_g2 : -9223372036854775808 ≤ m) (_g2' : m ≤ 9223372036854775807) : Fn Try.prog 6 [.d (enc t), .d (.int .i64 m)] [] (.d (.bool true)) [] := by
  have hnb : (nums m).bulk ≤ 2 ^ 20 := by show 0 + 0 + 1 ≤ _; exact Nat.le_of_ble_eq_true rfl
  refine Does.run Try.func6 rfl Try.ntmps6 rfl fun K hK => ?_
  refine Runs.rseq ?_
  refine RO.opn (v' := .ref 0 0) (O' := [_]) (opv_box_term rfl) rfl rfl ?_
  refine RO.opv (v' := .d (.bool false)) (opv_assign rfl) rfl ?_
  refine RO.nil ?_
  refine Runs.has [(1, .d (.int _ _)), (2, .ref 0 0), (4, .d (.bool false))] ⟨rfl, rfl, rfl, trivial⟩ ?_
  refine Runs.rseq ?_
  refine RO.opv (v' := .d (.bool true)) (opv_callF (shown_fn) rfl rfl rfl trivial) rfl ?_
  refine RO.opv (v' := .d (.bool true)) (opv_assign rfl) rfl ?_
  refine RO.nil ?_
  refine Runs.has [(1, .d (.int _ _)), (2, .ref 0 0), (4, .d (.bool false)), (5, .d (.bool true))] ⟨rfl, rfl, rfl, rfl, trivial⟩ ?_
  refine Runs.rseq ?_
  refine RO.opn (v' := .ref 3 0) (O' := [_, _, _, _]) (opv_callN 1 (new_fn) rfl rfl rfl) rfl rfl ?_
  refine RO.opv (v' := .ref 3 0) (opv_assign rfl) rfl ?_
  refine RO.nil ?_
  refine Runs.has [(1, .d (.int _ _)), (2, .ref 0 0), (4, .d (.bool false)), (5, .d (.bool true)), (6, .ref 3 0)] ⟨rfl, rfl, rfl, rfl, rfl, trivial⟩ ?_
  refine Runs.seq ?_
  refine Runs.rseq ?_
  refine RO.opv (v' := .ref 3 0) (opv_move rfl) rfl ?_
  refine RO.opv (v' := .d (.bool false)) (opv_eqnil_ref rfl rfl rfl) rfl ?_
  refine RO.opv (v' := .d (.bool false)) (opv_move rfl) rfl ?_
  refine RO.opgv (v' := .d (enc _)) rfl (opv_load_term rfl rfl rfl) rfl ?_
  refine RO.opgv (v' := .d (.bool _)) rfl (opv_callF (few_fn t (by omega)) rfl rfl rfl trivial) rfl ?_
  refine RO.opgv (v' := .d (.bool _)) rfl (opv_not rfl rfl) rfl ?_
  refine RO.opv (v' := .d (.bool _)) (opv_pick rfl rfl) rfl ?_
  refine RO.opc (opv_move rfl) (fun h1 => ?_) (fun h1 => ?_)
  · try simp only [decide_eq_true_eq, decide_eq_false_iff_not, beq_iff_eq, beq_eq_false_iff_ne, bne_iff_ne, bne_eq_false_iff_eq, Int.not_lt, Int.not_le, ne_eq, Bool.not_eq_true', Bool.not_eq_false', gt_iff_lt, ge_iff_le] at h1
    refine RO.off rfl ?_
    refine RO.off rfl ?_
    refine RO.off rfl ?_
    refine RO.opv (v' := .d (.bool true)) (opv_pick rfl rfl) rfl ?_
    refine RO.opv (v' := .d (.bool true)) (opv_move rfl) rfl ?_
    refine RO.off rfl ?_
    refine RO.off rfl ?_
    refine RO.off rfl ?_
    refine RO.opv (v' := .d (.bool true)) (opv_pick rfl rfl) rfl ?_
    refine RO.nil ?_
    refine Runs.condT rfl ?_
    refine Runs.has [(1, .d (.int _ _)), (2, .ref 0 0), (4, .d (.bool false)), (5, .d (.bool true)), (6, .ref 3 0)] ⟨rfl, rfl, rfl, rfl, rfl, trivial⟩ ?_
    refine Runs.rseq ?_
    refine RO.opv (v' := .d (.bool true)) (opv_move rfl) rfl ?_
    refine RO.opv (v' := .d (.bool true)) (opv_move rfl) rfl ?_
    refine RO.opgv (v' := .ref 3 0) rfl (opv_move rfl) rfl ?_
    refine RO.opgv (v' := .d (.bool true)) rfl (opv_nenil_ref rfl rfl rfl) rfl ?_
    refine RO.opv (v' := .d (.bool true)) (opv_pick rfl rfl) rfl ?_
    refine RO.opv (v' := .d (.bool true)) (opv_assign rfl) rfl ?_
    refine RO.nil ?_
    refine Runs.ret ?_
    refine thenQ_ret ?_
    refine EndQ.tmp (.inr rfl) rfl rfl 0 (by exact Nat.le_refl _) (by exact Nat.zero_le _) trivial ⟨?_, rfl⟩
    rfl
  · try simp only [decide_eq_true_eq, decide_eq_false_iff_not, beq_iff_eq, beq_eq_false_iff_ne, bne_iff_ne, bne_eq_false_iff_eq, Int.not_lt, Int.not_le, ne_eq, Bool.not_eq_true', Bool.not_eq_false', gt_iff_lt, ge_iff_le] at h1
    refine RO.opgv (v' := .d (enc _)) rfl (opv_load_term rfl rfl rfl) rfl ?_
    refine RO.opgv (v' := .d (.int _ _)) rfl (opv_callF (check_fn t 16 (by omega)) rfl rfl rfl trivial) rfl ?_
    refine RO.opgv (v' := .d (.bool _)) rfl (opv_bin rfl rfl rfl) rfl ?_
    refine RO.opv (v' := .d (.bool _)) (opv_pick rfl rfl) rfl ?_
    refine RO.opc (opv_move rfl) (fun h2 => ?_) (fun h2 => ?_)
    · try simp only [decide_eq_true_eq, decide_eq_false_iff_not, beq_iff_eq, beq_eq_false_iff_ne, bne_iff_ne, bne_eq_false_iff_eq, Int.not_lt, Int.not_le, ne_eq, Bool.not_eq_true', Bool.not_eq_false', gt_iff_lt, ge_iff_le] at h2
      skip
      refine RO.off rfl ?_
      refine RO.off rfl ?_
      refine RO.off rfl ?_
      refine RO.opv (v' := .d (.bool true)) (opv_pick rfl rfl) rfl ?_
      refine RO.nil ?_
      refine Runs.condT rfl ?_
      refine Runs.has [(1, .d (.int _ _)), (2, .ref 0 0), (4, .d (.bool false)), (5, .d (.bool true)), (6, .ref 3 0)] ⟨rfl, rfl, rfl, rfl, rfl, trivial⟩ ?_
      refine Runs.rseq ?_
      refine RO.opv (v' := .d (.bool true)) (opv_move rfl) rfl ?_
      refine RO.opv (v' := .d (.bool true)) (opv_move rfl) rfl ?_
      refine RO.opgv (v' := .ref 3 0) rfl (opv_move rfl) rfl ?_
      refine RO.opgv (v' := .d (.bool true)) rfl (opv_nenil_ref rfl rfl rfl) rfl ?_
      refine RO.opv (v' := .d (.bool true)) (opv_pick rfl rfl) rfl ?_
      refine RO.opv (v' := .d (.bool true)) (opv_assign rfl) rfl ?_
      refine RO.nil ?_
      refine Runs.ret ?_
      refine thenQ_ret ?_
      refine EndQ.tmp (.inr rfl) rfl rfl 0 (by exact Nat.le_refl _) (by exact Nat.zero_le _) trivial ⟨?_, rfl⟩
      rfl
    · try simp only [decide_eq_true_eq, decide_eq_false_iff_not, beq_iff_eq, beq_eq_false_iff_ne, bne_iff_ne, bne_eq_false_iff_eq, Int.not_lt, Int.not_le, ne_eq, Bool.not_eq_true', Bool.not_eq_false', gt_iff_lt, ge_iff_le] at h2
      have hc : t.check 16 = 0 := by omega
      refine RO.opgv (v' := .d (enc _)) rfl (opv_load_term rfl rfl rfl) rfl ?_
      refine RO.opgv (v' := .d (.bool _)) rfl (opv_callF (low_fn t (by omega)) rfl rfl rfl trivial) rfl ?_
      refine RO.opgv (v' := .d (.bool _)) rfl (opv_not rfl rfl) rfl ?_
      refine RO.opc (opv_pick rfl rfl) (fun h3 => ?_) (fun h3 => ?_)
      · try simp only [decide_eq_true_eq, decide_eq_false_iff_not, beq_iff_eq, beq_eq_false_iff_ne, bne_iff_ne, bne_eq_false_iff_eq, Int.not_lt, Int.not_le, ne_eq, Bool.not_eq_true', Bool.not_eq_false', gt_iff_lt, ge_iff_le] at h3
        skip
        refine RO.nil ?_
        refine Runs.condT rfl ?_
        refine Runs.has [(1, .d (.int _ _)), (2, .ref 0 0), (4, .d (.bool false)), (5, .d (.bool true)), (6, .ref 3 0)] ⟨rfl, rfl, rfl, rfl, rfl, trivial⟩ ?_
        refine Runs.rseq ?_
        refine RO.opv (v' := .d (.bool true)) (opv_move rfl) rfl ?_
        refine RO.opv (v' := .d (.bool true)) (opv_move rfl) rfl ?_
        refine RO.opgv (v' := .ref 3 0) rfl (opv_move rfl) rfl ?_
        refine RO.opgv (v' := .d (.bool true)) rfl (opv_nenil_ref rfl rfl rfl) rfl ?_
        refine RO.opv (v' := .d (.bool true)) (opv_pick rfl rfl) rfl ?_
        refine RO.opv (v' := .d (.bool true)) (opv_assign rfl) rfl ?_
        refine RO.nil ?_
        refine Runs.ret ?_
        refine thenQ_ret ?_
        refine EndQ.tmp (.inr rfl) rfl rfl 0 (by exact Nat.le_refl _) (by exact Nat.zero_le _) trivial ⟨?_, rfl⟩
        rfl
      · try simp only [decide_eq_true_eq, decide_eq_false_iff_not, beq_iff_eq, beq_eq_false_iff_ne, bne_iff_ne, bne_eq_false_iff_eq, Int.not_lt, Int.not_le, ne_eq, Bool.not_eq_true', Bool.not_eq_false', gt_iff_lt, ge_iff_le] at h3
        have hlow := h3
        refine RO.nil ?_
        refine Runs.condF rfl ?_
        refine Runs.skip ?_
        refine thenQ_normal ?_
        refine Runs.has [(1, .d (.int _ _)), (2, .ref 0 0), (4, .d (.bool false)), (5, .d (.bool true)), (6, .ref 3 0)] ⟨rfl, rfl, rfl, rfl, rfl, trivial⟩ ?_
        refine Runs.rseq ?_
        refine RO.opv (v' := .ref 3 0) (opv_move rfl) rfl ?_
        refine RO.opn (O' := [_, _, _, _]) (opv_callS 1 3 (fresh_fn e0 12 (Nat.zero_le _)) rfl rfl rfl (Nat.le_of_ble_eq_true rfl) rfl (AV.bds_of_B _ rfl)) rfl rfl ?_
        refine RO.nil ?_
        refine Runs.has [(1, .d (.int _ _)), (2, .ref 0 0), (4, .d (.bool false)), (5, .d (.bool true)), (6, .ref 3 0)] ⟨rfl, rfl, rfl, rfl, rfl, trivial⟩ ?_
        refine Runs.seq ?_
        refine Runs.rseq ?_
        refine RO.opv (v' := .d (.int _ _)) (opv_assign rfl) rfl ?_
        refine RO.nil ?_
        refine Runs.block ?_
        refine Runs.loopC (X := (Nat × St)) (fun x => x.1 ≤ 12 ∧ x.2.Ok (2 ^ 20) ∧ x.2.cs.length = 12 ∧ ∀ j : Int, 0 ≤ j → j < 12 → x.2.at j = if j < (x.1 : Int) then some (nums m) else none) (fun x => 12 - x.1) [(1, .d (.int _ _)), (2, .ref 0 0), (4, .d (.bool false)), (5, .d (.bool true)), (6, .ref 3 0)] (fun x => [(7, .d (.int .i64 (x.1 : Nat)))]) [_] (fun x => [.buf 70 5 (encCells (x.2).cs) (x.2).v1, .buf 3 1 (ints (x.2).tr) (x.2).v2, .cells [.own 1 (x.2).v1, .own 2 (x.2).v2]]) (((0 : Nat), (e0.fresh 12).1)) ⟨rfl, rfl, rfl, rfl, rfl, trivial⟩ ⟨rfl, trivial⟩ rfl ⟨Nat.zero_le _, e0_ok.fresh 12, by decide +kernel, fun j h0 _ => by rw [fresh_at]; simp [St.at, e0]; omega⟩ fun x hi => ?_
        refine Runs.seq ?_
        refine Runs.rseq ?_
        refine RO.opv (v' := .d (.int _ _)) (opv_move rfl) rfl ?_
        refine RO.opc (opv_bin rfl rfl rfl) (fun h4 => ?_) (fun h4 => ?_)
        · try simp only [decide_eq_true_eq, decide_eq_false_iff_not, beq_iff_eq, beq_eq_false_iff_ne, bne_iff_ne, bne_eq_false_iff_eq, Int.not_lt, Int.not_le, ne_eq, Bool.not_eq_true', Bool.not_eq_false', gt_iff_lt, ge_iff_le] at h4
          have hk : x.1 < 12 := by omega
          obtain ⟨hi1, hi2, hi3, hi4⟩ := hi
          have hbf := bind_free (s := x.2) (v := (x.1 : Int)) (t := nums m) (by omega) (by omega) (by rw [hi4 _ (by omega) (by omega), if_neg (by omega)]) (has_num _ _ _ _)
          refine RO.nil ?_
          refine Runs.condT rfl ?_
          refine Runs.skip ?_
          refine thenQ_normal ?_
          refine Runs.has [(1, .d (.int _ _)), (2, .ref 0 0), (4, .d (.bool false)), (5, .d (.bool true)), (6, .ref 3 0), (7, .d (.int _ _))] ⟨rfl, rfl, rfl, rfl, rfl, rfl, trivial⟩ ?_
          refine Runs.seq ?_
          refine Runs.block ?_
          refine Runs.region ?_
          refine RO.opv (v' := .ref 3 0) (opv_move rfl) rfl ?_
          refine RO.opv (v' := .d (.int _ _)) (opv_move rfl) rfl ?_
          refine RO.opv (v' := .d (.int _ _)) (opv_move rfl) rfl ?_
          refine RO.opv (v' := .d (enc _)) (opv_callF (num_fn m) rfl rfl rfl trivial) rfl ?_
          refine RO.opn (v' := .d (.int _ _)) (O' := [_, _, _, _]) (opv_callS 1 3 (bind_fn x.2 (x.1 : Int) (nums m) (hi2.small' (Nat.le_of_ble_eq_true rfl)) (Nat.le_trans hnb (Nat.le_of_ble_eq_true rfl)) (Nat.le_trans hi2.len (Nat.le_of_ble_eq_true rfl)) (Nat.lt_of_le_of_lt hi2.trl (Nat.lt_of_sub_pos (by decide)))) rfl rfl rfl (Nat.le_of_ble_eq_true rfl) rfl (AV.bds_of_B _ rfl)) rfl rfl ?_
          refine RO.nil ?_
          refine blockQ_normal ?_
          refine thenQ_normal ?_
          refine Runs.has [(1, .d (.int _ _)), (2, .ref 0 0), (4, .d (.bool false)), (5, .d (.bool true)), (6, .ref 3 0), (7, .d (.int _ _))] ⟨rfl, rfl, rfl, rfl, rfl, rfl, trivial⟩ ?_
          refine Runs.region ?_
          refine RO.opv (v' := .d (.int _ _)) (opv_move rfl) rfl ?_
          refine RO.opv (v' := .d (.int _ _)) (opv_bin rfl rfl rfl) rfl ?_
          refine RO.opv (v' := .d (.int _ _)) (opv_assign rfl) rfl ?_
          refine RO.nil ?_
          refine thenQ_normal ?_
          refine ⟨(x.1 + 1, (x.2.bind (x.1 : Int) (nums m)).1), 4, (by rw [hK]; exact Nat.le_of_ble_eq_true rfl), ⟨rfl, rfl, rfl, rfl, rfl, trivial⟩, ⟨?_, trivial⟩, rfl, ?_, ?_⟩
          · refine int_eq ?_; rw [wrap64 (by omega) (by omega)]; omega
          · refine ⟨hk, hi2.bind _ _ hnb, by show ((x.2.bind _ _).1.cs.length) = 12; rw [bind_len, hi3], fun j h0 h1 => ?_⟩
            show (x.2.bind _ _).1.at j = _
            rw [bind_at hbf.1, hi4 j h0 h1]
            by_cases e : j = (x.1 : Int)
            · rw [if_pos e, if_pos (by show j < ((x.1 + 1 : Nat) : Int); omega)]
            · rw [if_neg e]
              by_cases e2 : j < (x.1 : Int)
              · rw [if_pos e2, if_pos (by show j < ((x.1 + 1 : Nat) : Int); omega)]
              · rw [if_neg e2, if_neg (by show ¬ j < ((x.1 + 1 : Nat) : Int); omega)]
          · show 12 - (x.1 + 1) < _; omega
        · try simp only [decide_eq_true_eq, decide_eq_false_iff_not, beq_iff_eq, beq_eq_false_iff_ne, bne_iff_ne, bne_eq_false_iff_eq, Int.not_lt, Int.not_le, ne_eq, Bool.not_eq_true', Bool.not_eq_false', gt_iff_lt, ge_iff_le] at h4
          have hk : x.1 = 12 := by omega
          obtain ⟨hi1, hok, hi3, hi4⟩ := hi
          obtain ⟨X, hx1, hx2, hx3, hx4⟩ := copy_nums hok (fun j h0 h1 => by rw [hi4 j h0 h1, if_pos (by omega)]) hi3 hc hlow
          have hxb : X.bulk ≤ 2 ^ 30 := by have := full_bulk (t := t) hok.small g1; rw [hx1] at this; exact this
          have hok2 : (copyS x.2 t).Ok (2 ^ 20) := by rw [hx3]; exact hok.fresh 0
          have hx5 : (copyS x.2 t).full t = (X, 0) := by rw [hx3, full_cs (fresh_cs0 x.2 (by omega)) t, hx1]
          have hx6 : ((copyS x.2 t).fresh 0).2 = (12, 0) := by rw [hx3, fresh_ok (Int.le_refl _) (by rw [fresh_cs0 x.2 (by omega)]; omega), fresh_cs0 x.2 (by omega), hi3]; rfl
          refine RO.nil ?_
          refine Runs.condF rfl ?_
          refine Runs.exit ?_
          refine thenQ_exit ?_
          refine thenQ_exit ?_
          refine blockQ_here ?_
          refine thenQ_normal ?_
          refine Runs.has [(2, .ref 0 0), (4, .d (.bool false)), (5, .d (.bool true)), (6, .ref 3 0)] ⟨rfl, rfl, rfl, rfl, trivial⟩ ?_
          refine Runs.rseq ?_
          refine RO.opv (v' := .ref 3 0) (opv_move rfl) rfl ?_
          refine RO.opv (v' := .d (enc _)) (opv_load_term rfl rfl rfl) rfl ?_
          refine RO.opn (O' := [_, _, _, _]) (opv_callS 1 3 (copy_fn x.2 t (hok.small' (Nat.le_of_ble_eq_true rfl)) hok.ends hok.len (by omega) (by rw [hx1]; exact hxb)) rfl rfl rfl (Nat.le_of_ble_eq_true rfl) rfl (AV.bds_of_B _ rfl)) rfl rfl ?_
          refine RO.opv (opv_move rfl) rfl ?_
          refine RO.opv (v' := .d (enc _)) (opv_extract rfl rfl) rfl ?_
          refine RO.opv (v' := .d (.int _ _)) (opv_extract rfl rfl) rfl ?_
          refine RO.opn (v' := .ref 4 0) (O' := [_, _, _, _, _]) (opv_alloc) rfl rfl ?_
          refine RO.op0n (O' := [_, _, _, _, _]) (opv_store_term rfl rfl rfl (Nat.le_of_ble_eq_true rfl)) rfl ?_
          refine RO.opv (v' := .d (.int _ _)) (opv_assign rfl) rfl ?_
          refine RO.nil ?_
          refine Runs.has [(2, .ref 0 0), (4, .d (.bool false)), (5, .d (.bool true)), (6, .ref 3 0), (8, .ref 4 0), (9, .d (.int _ _))] ⟨rfl, rfl, rfl, rfl, rfl, rfl, trivial⟩ ?_
          refine Runs.rseq ?_
          refine RO.opv (v' := .ref 3 0) (opv_move rfl) rfl ?_
          refine RO.opv (v' := .d (enc _)) (opv_load_term rfl rfl rfl) rfl ?_
          refine RO.opn (O' := [_, _, _, _, _]) (opv_callS 1 3 (full_fn (copyS x.2 t) t (hok2.small' (Nat.le_of_ble_eq_true rfl)) hok2.ends (by omega)) rfl rfl rfl (Nat.le_of_ble_eq_true rfl) rfl (AV.bds_of_B _ rfl)) rfl rfl ?_
          refine RO.opv (opv_move rfl) rfl ?_
          refine RO.opv (v' := .d (enc _)) (opv_extract rfl rfl) rfl ?_
          refine RO.opv (v' := .d (.int _ _)) (opv_extract rfl rfl) rfl ?_
          refine RO.opn (v' := .ref 5 0) (O' := [_, _, _, _, _, _]) (opv_alloc) rfl rfl ?_
          refine RO.op0n (O' := [_, _, _, _, _, _]) (opv_store_term rfl rfl rfl (Nat.le_of_ble_eq_true rfl)) rfl ?_
          refine RO.opv (v' := .d (.int _ _)) (opv_assign rfl) rfl ?_
          refine RO.nil ?_
          refine Runs.has [(4, .d (.bool false)), (5, .d (.bool true)), (6, .ref 3 0), (8, .ref 4 0), (9, .d (.int _ _)), (10, .ref 5 0), (11, .d (.int _ _))] ⟨rfl, rfl, rfl, rfl, rfl, rfl, rfl, trivial⟩ ?_
          refine Runs.rseq ?_
          refine RO.opv (v' := .ref 3 0) (opv_move rfl) rfl ?_
          refine RO.opn (O' := [_, _, _, _, _, _]) (opv_callS 1 3 (fresh_fn (copyS x.2 t) 0 hok2.len) rfl rfl rfl (Nat.le_of_ble_eq_true rfl) rfl (AV.bds_of_B _ rfl)) rfl rfl ?_
          refine RO.opv (opv_move rfl) rfl ?_
          refine RO.opv (v' := .d (.int _ _)) (opv_extract rfl rfl) rfl ?_
          refine RO.opv (v' := .d (.int _ _)) (opv_extract rfl rfl) rfl ?_
          refine RO.opv (v' := .d (.int _ _)) (opv_assign rfl) rfl ?_
          refine RO.opv (v' := .d (.int _ _)) (opv_assign rfl) rfl ?_
          refine RO.nil ?_
          refine Runs.has [(4, .d (.bool false)), (5, .d (.bool true)), (8, .ref 4 0), (9, .d (.int _ _)), (10, .ref 5 0), (11, .d (.int _ _)), (12, .d (.int _ _)), (13, .d (.int _ _))] ⟨rfl, rfl, rfl, rfl, rfl, rfl, rfl, rfl, trivial⟩ ?_
          refine Runs.rseq ?_
          refine RO.opv (v' := .d (.bool true)) (opv_move rfl) rfl ?_
          refine RO.opv (v' := .d (.bool true)) (opv_move rfl) rfl ?_
          refine RO.opgv (v' := .d (.int _ _)) rfl (opv_move rfl) rfl ?_
          refine RO.opgv (v' := .d (.bool _)) rfl (opv_bin rfl rfl rfl) rfl ?_
          refine RO.opv (v' := .d (.bool _)) (opv_pick rfl rfl) rfl ?_
          refine RO.opc (opv_move rfl) (fun h5 => ?_) (fun h5 => ?_)
          · try simp only [decide_eq_true_eq, decide_eq_false_iff_not, beq_iff_eq, beq_eq_false_iff_ne, bne_iff_ne, bne_eq_false_iff_eq, Int.not_lt, Int.not_le, ne_eq, Bool.not_eq_true', Bool.not_eq_false', gt_iff_lt, ge_iff_le] at h5
            refine RO.opgv (v' := .d (.int _ _)) rfl (opv_move rfl) rfl ?_
            refine RO.opgv (v' := .d (.bool _)) rfl (opv_bin rfl rfl rfl) rfl ?_
            refine RO.opv (v' := .d (.bool _)) (opv_pick rfl rfl) rfl ?_
            refine RO.opc (opv_move rfl) (fun h6 => ?_) (fun h6 => ?_)
            · try simp only [decide_eq_true_eq, decide_eq_false_iff_not, beq_iff_eq, beq_eq_false_iff_ne, bne_iff_ne, bne_eq_false_iff_eq, Int.not_lt, Int.not_le, ne_eq, Bool.not_eq_true', Bool.not_eq_false', gt_iff_lt, ge_iff_le] at h6
              refine RO.opgv (v' := .d (.int _ _)) rfl (opv_move rfl) rfl ?_
              refine RO.opgv (v' := .d (.bool _)) rfl (opv_bin rfl rfl rfl) rfl ?_
              refine RO.opv (v' := .d (.bool _)) (opv_pick rfl rfl) rfl ?_
              refine RO.opc (opv_move rfl) (fun h7 => ?_) (fun h7 => ?_)
              · try simp only [decide_eq_true_eq, decide_eq_false_iff_not, beq_iff_eq, beq_eq_false_iff_ne, bne_iff_ne, bne_eq_false_iff_eq, Int.not_lt, Int.not_le, ne_eq, Bool.not_eq_true', Bool.not_eq_false', gt_iff_lt, ge_iff_le] at h7
                refine RO.opgv (v' := .d (enc _)) rfl (opv_load_term rfl rfl rfl) rfl ?_
                refine RO.opgv (v' := .d (enc _)) rfl (opv_load_term rfl rfl rfl) rfl ?_
                refine RO.opgv (v' := .d (.bool _)) rfl (opv_callF (same_fn (copyT x.2 t).1 ((copyS x.2 t).full t).1 (by rw [hx2]; exact hxb) (by rw [hx5]; exact hxb)) rfl rfl rfl trivial) rfl ?_
                refine RO.opv (v' := .d (.bool _)) (opv_pick rfl rfl) rfl ?_
                refine RO.opc (opv_move rfl) (fun h8 => ?_) (fun h8 => ?_)
                · try simp only [decide_eq_true_eq, decide_eq_false_iff_not, beq_iff_eq, beq_eq_false_iff_ne, bne_iff_ne, bne_eq_false_iff_eq, Int.not_lt, Int.not_le, ne_eq, Bool.not_eq_true', Bool.not_eq_false', gt_iff_lt, ge_iff_le] at h8
                  refine RO.opgv (v' := .d (enc _)) rfl (opv_load_term rfl rfl rfl) rfl ?_
                  refine RO.opgv (v' := .d (.list (ints _))) rfl (opv_callF (vars_fn (copyT x.2 t).1 (by rw [hx2]; exact hxb)) rfl rfl rfl trivial) rfl ?_
                  refine RO.opgv (v' := .d (.int _ _)) rfl (opv_len_ints rfl) rfl ?_
                  refine RO.opgv (v' := .d (.bool _)) rfl (opv_bin rfl rfl rfl) rfl ?_
                  refine RO.opv (v' := .d (.bool _)) (opv_pick rfl rfl) rfl ?_
                  refine RO.opc (opv_move rfl) (fun h9 => ?_) (fun h9 => ?_)
                  · try simp only [decide_eq_true_eq, decide_eq_false_iff_not, beq_iff_eq, beq_eq_false_iff_ne, bne_iff_ne, bne_eq_false_iff_eq, Int.not_lt, Int.not_le, ne_eq, Bool.not_eq_true', Bool.not_eq_false', gt_iff_lt, ge_iff_le] at h9
                    refine RO.opgv (v' := .d (.int _ _)) rfl (opv_move rfl) rfl ?_
                    refine RO.opgv (v' := .d (.bool _)) rfl (opv_bin rfl rfl rfl) rfl ?_
                    refine RO.opv (v' := .d (.bool _)) (opv_pick rfl rfl) rfl ?_
                    refine RO.opv (v' := .d (.bool _)) (opv_assign rfl) rfl ?_
                    refine RO.nil ?_
                    refine Runs.ret ?_
                    refine EndQ.tmp (.inr rfl) rfl rfl 0 (by exact Nat.le_refl _) (by exact Nat.zero_le _) trivial ⟨?_, rfl⟩
                    refine bool_eq ?_; rw [hx6]; rfl
                  · try simp only [decide_eq_true_eq, decide_eq_false_iff_not, beq_iff_eq, beq_eq_false_iff_ne, bne_iff_ne, bne_eq_false_iff_eq, Int.not_lt, Int.not_le, ne_eq, Bool.not_eq_true', Bool.not_eq_false', gt_iff_lt, ge_iff_le] at h9
                    rw [hx2, hx4] at h9; exact absurd rfl h9
                · try simp only [decide_eq_true_eq, decide_eq_false_iff_not, beq_iff_eq, beq_eq_false_iff_ne, bne_iff_ne, bne_eq_false_iff_eq, Int.not_lt, Int.not_le, ne_eq, Bool.not_eq_true', Bool.not_eq_false', gt_iff_lt, ge_iff_le] at h8
                  rw [hx2, hx5, same_refl] at h8; cases h8
              · try simp only [decide_eq_true_eq, decide_eq_false_iff_not, beq_iff_eq, beq_eq_false_iff_ne, bne_iff_ne, bne_eq_false_iff_eq, Int.not_lt, Int.not_le, ne_eq, Bool.not_eq_true', Bool.not_eq_false', gt_iff_lt, ge_iff_le] at h7
                rw [hx6] at h7; exact absurd rfl h7
            · try simp only [decide_eq_true_eq, decide_eq_false_iff_not, beq_iff_eq, beq_eq_false_iff_ne, bne_iff_ne, bne_eq_false_iff_eq, Int.not_lt, Int.not_le, ne_eq, Bool.not_eq_true', Bool.not_eq_false', gt_iff_lt, ge_iff_le] at h6
              rw [hx5] at h6; exact absurd rfl h6
          · try simp only [decide_eq_true_eq, decide_eq_false_iff_not, beq_iff_eq, beq_eq_false_iff_ne, bne_iff_ne, bne_eq_false_iff_eq, Int.not_lt, Int.not_le, ne_eq, Bool.not_eq_true', Bool.not_eq_false', gt_iff_lt, ge_iff_le] at h5
            rw [hx2] at h5; exact absurd rfl h5
end Go.Proofs.Ytbpbpkolpldimaa.AM
