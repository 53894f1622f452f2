import Derived.Test.YthnhhgchmojcgaaL0
namespace Go.Proofs.Ythnhhgchmojcgaa.AM
open Go
set_option linter.unusedVariables false
set_option linter.unusedSimpArgs false
theorem storeWalks_fn (m : Int) (t : Term) (g1 : 0 ≤ m) (g1' : m ≤ 255) (g2 : t.bulk ≤ 2 ^ 20) (_g2' : t.fits) : Fn Try.prog 3 [.d (.int .u8 m), .d (enc t)] [] (.d (.bool true)) [] := by
  obtain ⟨k1, k2⟩ := kk_le m
  have hc0 := chain_zero (kk m) (by omega)
  have hcl : ∀ i, (chainS (kk m) i).tr.length = i := fun i => trs_len i
  refine Does.run Try.func3 rfl Try.ntmps3 rfl fun K hK => ?_
  refine Runs.rseq ?_
  refine RO.opn (v' := .ref 0 0) (O' := [_]) (opv_box_term rfl) rfl rfl ?_
  refine RO.opv (v' := .d (.bool false)) (opv_assign rfl) rfl ?_
  refine RO.nil ?_
  refine Runs.has [(0, .d (.int _ _)), (3, .ref 0 0), (4, .d (.bool false))] ⟨rfl, rfl, rfl, trivial⟩ ?_
  refine Runs.rseq ?_
  refine RO.opv (v' := .d (.bool true)) (opv_callF (shown_fn) rfl rfl rfl trivial) rfl ?_
  refine RO.opv (v' := .d (.bool true)) (opv_assign rfl) rfl ?_
  refine RO.nil ?_
  refine Runs.has [(0, .d (.int _ _)), (3, .ref 0 0), (4, .d (.bool false)), (5, .d (.bool true))] ⟨rfl, rfl, rfl, rfl, trivial⟩ ?_
  refine Runs.rseq ?_
  refine RO.opn (v' := .ref 3 0) (O' := [_, _, _, _]) (opv_callN 1 (new_fn) rfl rfl rfl) rfl rfl ?_
  refine RO.opv (v' := .ref 3 0) (opv_assign rfl) rfl ?_
  refine RO.nil ?_
  refine Runs.has [(0, .d (.int _ _)), (3, .ref 0 0), (4, .d (.bool false)), (5, .d (.bool true)), (6, .ref 3 0)] ⟨rfl, rfl, rfl, rfl, rfl, trivial⟩ ?_
  refine Runs.seq ?_
  refine Runs.rseq ?_
  refine RO.opv (v' := .ref 3 0) (opv_move rfl) rfl ?_
  refine RO.opv (v' := .d (.bool false)) (opv_eqnil_ref rfl rfl rfl) rfl ?_
  refine RO.opv (v' := .d (.bool false)) (opv_move rfl) rfl ?_
  refine RO.opgv (v' := .d (enc _)) rfl (opv_load_term rfl rfl rfl) rfl ?_
  refine RO.opgv (v' := .d (.bool _)) rfl (opv_callF (few_fn t (by omega)) rfl rfl rfl trivial) rfl ?_
  refine RO.opgv (v' := .d (.bool _)) rfl (opv_not rfl rfl) rfl ?_
  refine RO.opc (opv_pick rfl rfl) (fun h1 => ?_) (fun h1 => ?_)
  · skip
    refine RO.nil ?_
    refine Runs.condT rfl ?_
    refine Runs.has [(0, .d (.int _ _)), (3, .ref 0 0), (4, .d (.bool false)), (5, .d (.bool true)), (6, .ref 3 0)] ⟨rfl, rfl, rfl, rfl, rfl, trivial⟩ ?_
    refine Runs.rseq ?_
    refine RO.opv (v' := .ref 3 0) (opv_move rfl) rfl ?_
    refine RO.opv (v' := .d (.bool true)) (opv_nenil_ref rfl rfl rfl) rfl ?_
    refine RO.opv (v' := .d (.bool true)) (opv_move rfl) rfl ?_
    refine RO.opgv (v' := .d (.bool true)) rfl (opv_move rfl) rfl ?_
    refine RO.opv (v' := .d (.bool true)) (opv_pick rfl rfl) rfl ?_
    refine RO.opv (v' := .d (.bool true)) (opv_assign rfl) rfl ?_
    refine RO.nil ?_
    refine Runs.ret ?_
    refine thenQ_ret ?_
    refine EndQ.tmp (.inr rfl) rfl rfl 0 (by exact Nat.le_refl _) (by exact Nat.zero_le _) trivial ⟨?_, rfl⟩
    rfl
  · skip
    refine RO.nil ?_
    refine Runs.condF rfl ?_
    refine Runs.skip ?_
    refine thenQ_normal ?_
    refine Runs.has [(0, .d (.int _ _)), (3, .ref 0 0), (4, .d (.bool false)), (5, .d (.bool true)), (6, .ref 3 0)] ⟨rfl, rfl, rfl, rfl, rfl, trivial⟩ ?_
    refine Runs.rseq ?_
    refine RO.opv (v' := .d (.int _ _)) (opv_move rfl) rfl ?_
    refine RO.opv (v' := .d (.int _ _)) (opv_bin rfl rfl rfl) rfl ?_
    refine RO.opv (v' := .d (.int _ _)) (opv_conv rfl rfl) rfl ?_
    refine RO.opv (v' := .d (.int _ _)) (opv_bin rfl rfl rfl) rfl ?_
    refine RO.opv (v' := .d (.int _ _)) (opv_assign (int_eq (kk_eq g1 g1'))) rfl ?_
    refine RO.nil ?_
    refine Runs.has [(3, .ref 0 0), (4, .d (.bool false)), (5, .d (.bool true)), (6, .ref 3 0), (7, .d (.int _ _))] ⟨rfl, rfl, rfl, rfl, rfl, trivial⟩ ?_
    refine Runs.rseq ?_
    refine RO.opv (v' := .ref 3 0) (opv_move rfl) rfl ?_
    refine RO.opv (v' := .d (.int _ _)) (opv_move rfl) rfl ?_
    refine RO.opn (O' := [_, _, _, _]) (opv_callS 1 3 (fresh_fn e0 ((kk m : Nat) : Int) (Nat.zero_le _)) rfl rfl rfl (Nat.le_of_ble_eq_true rfl) rfl (AV.bds_of_B _ rfl)) rfl rfl ?_
    refine RO.nil ?_
    refine Runs.has [(3, .ref 0 0), (4, .d (.bool false)), (5, .d (.bool true)), (6, .ref 3 0), (7, .d (.int _ _))] ⟨rfl, rfl, rfl, rfl, rfl, trivial⟩ ?_
    refine Runs.seq ?_
    refine Runs.rseq ?_
    refine RO.opv (v' := .d (.int _ _)) (opv_assign rfl) rfl ?_
    refine RO.nil ?_
    refine Runs.block ?_
    refine Runs.loopC (X := (Nat × St)) (fun x => x.1 + 1 ≤ kk m ∧ x.2 = chainS (kk m) x.1) (fun x => kk m - x.1) [(3, .ref 0 0), (5, .d (.bool true)), (6, .ref 3 0), (7, .d (.int _ _))] (fun x => [(8, .d (.int .i64 (x.1 : Nat)))]) [_] (fun x => [.buf 62 5 (encCells (x.2).cs) (x.2).v1, .buf 3 1 (ints (x.2).tr) (x.2).v2, .cells [.own 1 (x.2).v1, .own 2 (x.2).v2]]) (((0 : Nat), (e0.fresh ((kk m : Nat) : Int)).1)) ⟨rfl, rfl, rfl, rfl, trivial⟩ ⟨rfl, trivial⟩ rfl ⟨by show 0 + 1 ≤ _; omega, hc0⟩ fun x hi => ?_
    refine Runs.seq ?_
    refine Runs.rseq ?_
    refine RO.opv (v' := .d (.int _ _)) (opv_move rfl) rfl ?_
    refine RO.opv (v' := .d (.int _ _)) (opv_arith rfl rfl (binD_add (r := ((x.1 + 1 : Nat) : Int)) (by refine (wrap64 ?_ ?_).trans ?_ <;> omega))) rfl ?_
    refine RO.opv (v' := .d (.int _ _)) (opv_move rfl) rfl ?_
    refine RO.opc (opv_bin rfl rfl rfl) (fun h2 => ?_) (fun h2 => ?_)
    · skip
      have hk : x.1 + 1 < kk m := by have := of_decide_eq_true h2; omega
      have hok : x.2.Ok (2 ^ 20) := by rw [hi.2]; exact chain_ok (by omega) _ (by omega)
      have hbc := bind_chain hk
      refine RO.nil ?_
      refine Runs.condT rfl ?_
      refine Runs.skip ?_
      refine thenQ_normal ?_
      refine Runs.has [(3, .ref 0 0), (5, .d (.bool true)), (6, .ref 3 0), (7, .d (.int _ _)), (8, .d (.int _ _))] ⟨rfl, rfl, rfl, rfl, rfl, trivial⟩ ?_
      refine Runs.seq ?_
      refine Runs.block ?_
      refine Runs.rseq ?_
      refine RO.opv (v' := .ref 3 0) (opv_move rfl) rfl ?_
      refine RO.opv (v' := .d (.int _ _)) (opv_move rfl) rfl ?_
      refine RO.opv (v' := .d (.int _ _)) (opv_move rfl) rfl ?_
      refine RO.opv (v' := .d (.int _ _)) (opv_arith rfl rfl (binD_add (r := ((x.1 + 1 : Nat) : Int)) (by refine (wrap64 ?_ ?_).trans ?_ <;> omega))) rfl ?_
      refine RO.opv (v' := .d (enc _)) (opv_callF (let_fn ((x.1 + 1 : Nat) : Int)) rfl rfl rfl trivial) rfl ?_
      refine RO.opn (v' := .d (.int _ _)) (O' := [_, _, _, _]) (opv_callS 1 3 (bind_fn x.2 (x.1 : Int) (lets ((x.1 + 1 : Nat) : Int)) (hok.small' (Nat.le_of_ble_eq_true rfl)) (by simp only [lets, Term.bulk, bulks]; exact Nat.le_of_ble_eq_true rfl) (Nat.le_trans hok.len (Nat.le_of_ble_eq_true rfl)) (Nat.lt_of_le_of_lt hok.trl (Nat.lt_of_sub_pos (by decide)))) rfl rfl rfl (Nat.le_of_ble_eq_true rfl) rfl (AV.bds_of_B _ rfl)) rfl rfl ?_
      refine RO.opc (opv_bin rfl rfl rfl) (fun h3 => ?_) (fun h3 => ?_)
      · skip
        rw [hi.2, hbc] at h3; simp at h3
      · skip
        refine RO.nil ?_
        refine Runs.condF rfl ?_
        refine Runs.skip ?_
        refine blockQ_normal ?_
        refine thenQ_normal ?_
        refine Runs.has [(3, .ref 0 0), (5, .d (.bool true)), (6, .ref 3 0), (7, .d (.int _ _)), (8, .d (.int _ _))] ⟨rfl, rfl, rfl, rfl, rfl, trivial⟩ ?_
        refine Runs.region ?_
        refine RO.opv (v' := .d (.int _ _)) (opv_move rfl) rfl ?_
        refine RO.opv (v' := .d (.int _ _)) (opv_arith rfl rfl (binD_add (r := ((x.1 + 1 : Nat) : Int)) (by refine (wrap64 ?_ ?_).trans ?_ <;> omega))) rfl ?_
        refine RO.opv (v' := .d (.int _ _)) (opv_assign rfl) rfl ?_
        refine RO.nil ?_
        refine thenQ_normal ?_
        refine ⟨(x.1 + 1, (x.2.bind (x.1 : Int) (lets ((x.1 + 1 : Nat) : Int))).1), 4, (by rw [hK]; exact Nat.le_of_ble_eq_true rfl), ⟨rfl, rfl, rfl, rfl, trivial⟩, ⟨?_, trivial⟩, rfl, ?_, ?_⟩
        · rfl
        · exact ⟨by show x.1 + 1 + 1 ≤ _; omega, by show (x.2.bind _ _).1 = _; rw [hi.2, hbc]⟩
        · show kk m - (x.1 + 1) < _; omega
    · skip
      have hk : x.1 + 1 = kk m := by have := of_decide_eq_false h2; have := hi.1; omega
      obtain ⟨j, σ⟩ := x
      obtain ⟨hj, rfl⟩ : j + 1 ≤ kk m ∧ σ = chainS (kk m) j := hi
      obtain rfl : j = kk m - 1 := by simp only at hk; omega
      have hok2 := chain_ok (k := kk m) (by omega) (kk m - 1) (by omega)
      refine RO.nil ?_
      refine Runs.condF rfl ?_
      refine Runs.exit ?_
      refine thenQ_exit ?_
      refine thenQ_exit ?_
      refine blockQ_here ?_
      refine thenQ_normal ?_
      refine Runs.has [(3, .ref 0 0), (5, .d (.bool true)), (6, .ref 3 0), (7, .d (.int _ _))] ⟨rfl, rfl, rfl, rfl, trivial⟩ ?_
      refine Runs.seq ?_
      refine Runs.rseq ?_
      refine RO.opv (v' := .d (.int _ _)) (opv_assign rfl) rfl ?_
      refine RO.nil ?_
      refine Runs.block ?_
      refine Runs.loopC (X := Nat) (fun i => i ≤ kk m) (fun i => kk m - i) [(3, .ref 0 0), (5, .d (.bool true)), (6, .ref 3 0), (7, .d (.int _ _))] (fun i => [(9, .d (.int .i64 (i : Nat)))]) [_, _, _, _] (fun i => []) (0) ⟨rfl, rfl, rfl, rfl, trivial⟩ ⟨rfl, trivial⟩ rfl (by omega) fun i hi => ?_
      refine Runs.seq ?_
      refine Runs.rseq ?_
      refine RO.opv (v' := .d (.int _ _)) (opv_move rfl) rfl ?_
      refine RO.opv (v' := .d (.int _ _)) (opv_move rfl) rfl ?_
      refine RO.opc (opv_bin rfl rfl rfl) (fun h4 => ?_) (fun h4 => ?_)
      · skip
        have hk2 : i < kk m := by have := of_decide_eq_true h4; omega
        have hwk := chain_walk (k := kk m) (by omega) (kk m - 1 - i) i (by omega)
        refine RO.nil ?_
        refine Runs.condT rfl ?_
        refine Runs.skip ?_
        refine thenQ_normal ?_
        refine Runs.has [(3, .ref 0 0), (5, .d (.bool true)), (6, .ref 3 0), (7, .d (.int _ _)), (9, .d (.int _ _))] ⟨rfl, rfl, rfl, rfl, rfl, trivial⟩ ?_
        refine Runs.seq ?_
        refine Runs.block ?_
        refine Runs.rseq ?_
        refine RO.opv (v' := .ref 3 0) (opv_move rfl) rfl ?_
        refine RO.opv (v' := .d (.int _ _)) (opv_move rfl) rfl ?_
        refine RO.opv (v' := .d (enc _)) (opv_callF (let_fn (i : Int)) rfl rfl rfl trivial) rfl ?_
        refine RO.opn (v' := .d (enc _)) (O' := [_, _, _, _]) (opv_callS 1 3 (wk_fn (chainS (kk m) (kk m - 1)) (lets (i : Int)) (hok2.ends _)) rfl rfl rfl (Nat.le_of_ble_eq_true rfl) rfl (AV.bds_of_B _ rfl)) rfl rfl ?_
        refine RO.opv (v' := .d (.int _ _)) (opv_move rfl) rfl ?_
        refine RO.opv (v' := .d (.int _ _)) (opv_arith rfl rfl (binD_sub (r := ((kk m - 1 : Nat) : Int)) (by refine (wrap64 ?_ ?_).trans ?_ <;> omega))) rfl ?_
        refine RO.opv (v' := .d (enc _)) (opv_callF (let_fn ((kk m - 1 : Nat) : Int)) rfl rfl rfl trivial) rfl ?_
        refine RO.opv (v' := .d (.bool _)) (opv_callF (same_fn ((chainS (kk m) (kk m - 1)).wk (lets (i : Int))) (lets ((kk m - 1 : Nat) : Int)) (by rw [hwk]; simp only [lets, Term.bulk, bulks]; exact Nat.le_of_ble_eq_true rfl) (by simp only [lets, Term.bulk, bulks]; exact Nat.le_of_ble_eq_true rfl)) rfl rfl rfl trivial) rfl ?_
        refine RO.opv (v' := .d (.bool _)) (opv_not rfl rfl) rfl ?_
        refine RO.opc (opv_move rfl) (fun h5 => ?_) (fun h5 => ?_)
        · skip
          rw [hwk, same_refl] at h5; cases h5
        · skip
          refine RO.opgv (v' := .ref 3 0) rfl (opv_move rfl) rfl ?_
          refine RO.opgv (v' := .d (.int _ _)) rfl (opv_move rfl) rfl ?_
          refine RO.opgv (v' := .d (enc _)) rfl (opv_callF (let_fn (i : Int)) rfl rfl rfl trivial) rfl ?_
          refine RO.opgv (v' := .d (.int _ _)) rfl (opv_move rfl) rfl ?_
          refine RO.opgv (v' := .d (.int _ _)) rfl (opv_arith rfl rfl (binD_sub (r := ((kk m - 1 : Nat) : Int)) (by refine (wrap64 ?_ ?_).trans ?_ <;> omega))) rfl ?_
          refine RO.opgn (v' := .d (.bool _)) (O' := [_, _, _, _]) rfl (opv_callS 1 3 (has_store_fn (chainS (kk m) (kk m - 1)) (lets (i : Int)) ((kk m - 1 : Nat) : Int) (hok2.small' (Nat.le_of_ble_eq_true rfl)) (by simp only [lets, Term.bulk, bulks]; exact Nat.le_of_ble_eq_true rfl)) rfl rfl rfl (Nat.le_of_ble_eq_true rfl) rfl (AV.bds_of_B _ rfl)) rfl rfl ?_
          refine RO.opgv (v' := .d (.bool _)) rfl (opv_not rfl rfl) rfl ?_
          refine RO.opc (opv_pick rfl rfl) (fun h6 => ?_) (fun h6 => ?_)
          · skip
            rw [chain_has (by omega) hk2] at h6; cases h6
          · skip
            refine RO.nil ?_
            refine Runs.condF rfl ?_
            refine Runs.skip ?_
            refine blockQ_normal ?_
            refine thenQ_normal ?_
            refine Runs.has [(3, .ref 0 0), (5, .d (.bool true)), (6, .ref 3 0), (7, .d (.int _ _)), (9, .d (.int _ _))] ⟨rfl, rfl, rfl, rfl, rfl, trivial⟩ ?_
            refine Runs.region ?_
            refine RO.opv (v' := .d (.int _ _)) (opv_move rfl) rfl ?_
            refine RO.opv (v' := .d (.int _ _)) (opv_arith rfl rfl (binD_add (r := ((i + 1 : Nat) : Int)) (by refine (wrap64 ?_ ?_).trans ?_ <;> omega))) rfl ?_
            refine RO.opv (v' := .d (.int _ _)) (opv_assign rfl) rfl ?_
            refine RO.nil ?_
            refine thenQ_normal ?_
            refine ⟨i + 1, 4, (by rw [hK]; exact Nat.le_of_ble_eq_true rfl), ⟨rfl, rfl, rfl, rfl, trivial⟩, ⟨?_, trivial⟩, rfl, ?_, ?_⟩
            · rfl
            · omega
            · omega
      · skip
        have hR := chain_ring (k := kk m) (by omega) (by omega)
        have hT := chain_there (k := kk m) (by omega) (by omega) t
        have hok3 : ((chainS (kk m) (kk m - 1)).bind ((kk m - 1 : Nat) : Int) (lets 0)).1.Ok (2 ^ 20) := by rw [hR]; exact hok2
        refine RO.nil ?_
        refine Runs.condF rfl ?_
        refine Runs.exit ?_
        refine thenQ_exit ?_
        refine thenQ_exit ?_
        refine blockQ_here ?_
        refine thenQ_normal ?_
        refine Runs.has [(3, .ref 0 0), (5, .d (.bool true)), (6, .ref 3 0), (7, .d (.int _ _))] ⟨rfl, rfl, rfl, rfl, trivial⟩ ?_
        refine Runs.rseq ?_
        refine RO.opv (v' := .ref 3 0) (opv_move rfl) rfl ?_
        refine RO.opv (v' := .d (.int _ _)) (opv_move rfl) rfl ?_
        refine RO.opv (v' := .d (.int _ _)) (opv_arith rfl rfl (binD_sub (r := ((kk m - 1 : Nat) : Int)) (by refine (wrap64 ?_ ?_).trans ?_ <;> omega))) rfl ?_
        refine RO.opv (v' := .d (enc _)) (opv_callF (let_fn 0) rfl rfl rfl trivial) rfl ?_
        refine RO.opn (v' := .d (.int _ _)) (O' := [_, _, _, _]) (opv_callS 1 3 (bind_fn (chainS (kk m) (kk m - 1)) ((kk m - 1 : Nat) : Int) (lets 0) (hok2.small' (Nat.le_of_ble_eq_true rfl)) (by simp only [lets, Term.bulk, bulks]; exact Nat.le_of_ble_eq_true rfl) (Nat.le_trans hok2.len (Nat.le_of_ble_eq_true rfl)) (Nat.lt_of_le_of_lt hok2.trl (Nat.lt_of_sub_pos (by decide)))) rfl rfl rfl (Nat.le_of_ble_eq_true rfl) rfl (AV.bds_of_B _ rfl)) rfl rfl ?_
        refine RO.opv (v' := .d (.int _ _)) (opv_assign rfl) rfl ?_
        refine RO.nil ?_
        refine Runs.has [(3, .ref 0 0), (5, .d (.bool true)), (6, .ref 3 0), (7, .d (.int _ _)), (10, .d (.int _ _))] ⟨rfl, rfl, rfl, rfl, rfl, trivial⟩ ?_
        refine Runs.rseq ?_
        refine RO.opv (v' := .ref 3 0) (opv_move rfl) rfl ?_
        refine RO.opv (v' := .d (enc _)) (opv_load_term rfl rfl rfl) rfl ?_
        refine RO.opn (v' := .d (.int _ _)) (O' := [_, _, _, _]) (opv_callS 1 3 (bind_fn ((chainS (kk m) (kk m - 1)).bind ((kk m - 1 : Nat) : Int) (lets 0)).1 0 t (hok3.small' (Nat.le_of_ble_eq_true rfl)) (by omega) (Nat.le_trans hok3.len (Nat.le_of_ble_eq_true rfl)) (Nat.lt_of_le_of_lt hok3.trl (Nat.lt_of_sub_pos (by decide)))) rfl rfl rfl (Nat.le_of_ble_eq_true rfl) rfl (AV.bds_of_B _ rfl)) rfl rfl ?_
        refine RO.opv (v' := .d (.int _ _)) (opv_assign rfl) rfl ?_
        refine RO.nil ?_
        refine Runs.has [(5, .d (.bool true)), (6, .ref 3 0), (7, .d (.int _ _)), (10, .d (.int _ _)), (11, .d (.int _ _))] ⟨rfl, rfl, rfl, rfl, rfl, trivial⟩ ?_
        refine Runs.rseq ?_
        refine RO.opv (v' := .d (.bool true)) (opv_move rfl) rfl ?_
        refine RO.opv (v' := .d (.bool true)) (opv_move rfl) rfl ?_
        refine RO.opgv (v' := .d (.int _ _)) rfl (opv_move rfl) rfl ?_
        refine RO.opgv (v' := .d (.bool _)) rfl (opv_bin rfl rfl rfl) rfl ?_
        refine RO.opv (v' := .d (.bool _)) (opv_pick rfl rfl) rfl ?_
        refine RO.opc (opv_move rfl) (fun h7 => ?_) (fun h7 => ?_)
        · skip
          refine RO.opgv (v' := .d (.int _ _)) rfl (opv_move rfl) rfl ?_
          refine RO.opgv (v' := .d (.bool _)) rfl (opv_bin rfl rfl rfl) rfl ?_
          refine RO.opv (v' := .d (.bool _)) (opv_pick rfl rfl) rfl ?_
          refine RO.opc (opv_move rfl) (fun h8 => ?_) (fun h8 => ?_)
          · skip
            refine RO.opgv (v' := .ref 3 0) rfl (opv_move rfl) rfl ?_
            refine RO.opgn (v' := .d (.int _ _)) (O' := [_, _, _, _]) rfl (opv_callS 1 3 (mark_fn (((chainS (kk m) (kk m - 1)).bind ((kk m - 1 : Nat) : Int) (lets 0)).1.bind 0 t).1) rfl rfl rfl (Nat.le_of_ble_eq_true rfl) rfl (AV.bds_of_B _ rfl)) rfl rfl ?_
            refine RO.opgv (v' := .d (.int _ _)) rfl (opv_move rfl) rfl ?_
            refine RO.opgv (v' := .d (.int _ _)) rfl (opv_arith rfl rfl (binD_sub (r := ((kk m - 1 : Nat) : Int)) (by refine (wrap64 ?_ ?_).trans ?_ <;> omega))) rfl ?_
            refine RO.opgv (v' := .d (.bool _)) rfl (opv_bin rfl rfl rfl) rfl ?_
            refine RO.opv (v' := .d (.bool _)) (opv_pick rfl rfl) rfl ?_
            refine RO.opv (v' := .d (.bool _)) (opv_assign rfl) rfl ?_
            refine RO.nil ?_
            refine Runs.ret ?_
            refine EndQ.tmp (.inr rfl) rfl rfl 0 (by exact Nat.le_refl _) (by exact Nat.zero_le _) trivial ⟨?_, rfl⟩
            refine bool_eq ?_; rw [hR]; simp only [hT, hcl]; simp
          · skip
            rw [hR] at h8; simp [hT] at h8
        · skip
          rw [hR] at h7; simp at h7
end Go.Proofs.Ythnhhgchmojcgaa.AM
