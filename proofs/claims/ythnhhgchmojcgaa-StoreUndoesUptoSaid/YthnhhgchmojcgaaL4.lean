import Derived.Test.YthnhhgchmojcgaaL0
import Derived.Test.YthnhhgchmojcgaaS6
import Derived.Test.YthnhhgchmojcgaaE1
namespace Go.Proofs.Ythnhhgchmojcgaa.AM
open Go
set_option linter.unusedVariables false
set_option linter.unusedSimpArgs false
theorem storeUndoes_fn (l m : List Deed) (t : Term) (g1 : ∀ d ∈ l, d.t.bulk ≤ 2 ^ 20) (g2 : ∀ d ∈ m, d.t.bulk ≤ 2 ^ 20) (g3 : t.bulk ≤ 2 ^ 20) : Fn Try.prog 5 [.d (.list (l.map encDeed)), .d (.list (m.map encDeed)), .d (enc t)] [] (.d (.bool true)) [] := by
  have hll : (l.map encDeed).length = l.length := List.length_map _
  have hml : (m.map encDeed).length = m.length := List.length_map _
  have hlb : ∀ v : Int, (lets v).bulk ≤ 2 ^ 20 := fun v => by simp only [lets, Term.bulk, bulks]; exact Nat.le_of_ble_eq_true rfl
  refine Does.run Try.func5 rfl Try.ntmps5 rfl fun K hK => ?_
  refine Runs.rseq ?_
  refine RO.opn (v' := .ref 0 0) (O' := [_]) (opv_box_term rfl) rfl rfl ?_
  refine RO.opv (v' := .d (.bool false)) (opv_assign rfl) rfl ?_
  refine RO.nil ?_
  refine Runs.has [(0, .d (.list _)), (1, .d (.list _)), (5, .ref 0 0), (6, .d (.bool false))] ⟨rfl, rfl, rfl, rfl, trivial⟩ ?_
  refine Runs.rseq ?_
  refine RO.opv (v' := .d (.bool true)) (opv_callF (shown_fn) rfl rfl rfl trivial) rfl ?_
  refine RO.opv (v' := .d (.bool true)) (opv_assign rfl) rfl ?_
  refine RO.nil ?_
  refine Runs.has [(0, .d (.list _)), (1, .d (.list _)), (5, .ref 0 0), (6, .d (.bool false)), (7, .d (.bool true))] ⟨rfl, rfl, rfl, rfl, rfl, trivial⟩ ?_
  refine Runs.rseq ?_
  refine RO.opn (v' := .ref 3 0) (O' := [_, _, _, _]) (opv_callN 1 (new_fn) rfl rfl rfl) rfl rfl ?_
  refine RO.opv (v' := .ref 3 0) (opv_assign rfl) rfl ?_
  refine RO.nil ?_
  refine Runs.has [(0, .d (.list _)), (1, .d (.list _)), (5, .ref 0 0), (6, .d (.bool false)), (7, .d (.bool true)), (8, .ref 3 0)] ⟨rfl, rfl, rfl, rfl, rfl, rfl, trivial⟩ ?_
  refine Runs.seq ?_
  refine Runs.rseq ?_
  refine RO.opv (v' := .ref 3 0) (opv_move rfl) rfl ?_
  refine RO.opv (v' := .d (.bool false)) (opv_eqnil_ref rfl rfl rfl) rfl ?_
  refine RO.opv (v' := .d (.bool false)) (opv_move rfl) rfl ?_
  refine RO.opgv (v' := .d (enc _)) rfl (opv_load_term rfl rfl rfl) rfl ?_
  refine RO.opgv (v' := .d (.bool _)) rfl (opv_callF (few_fn t (by omega)) rfl rfl rfl trivial) rfl ?_
  refine RO.opgv (v' := .d (.bool _)) rfl (opv_not rfl rfl) rfl ?_
  refine RO.opc (opv_pick rfl rfl) (fun h1 => ?_) (fun h1 => ?_)
  · try simp only [decide_eq_true_eq, decide_eq_false_iff_not, beq_iff_eq, beq_eq_false_iff_ne, bne_iff_ne, bne_eq_false_iff_eq, Int.not_lt, Int.not_le, ne_eq, Bool.not_eq_true', Bool.not_eq_false', gt_iff_lt, ge_iff_le] at h1
    refine RO.nil ?_
    refine Runs.condT rfl ?_
    refine Runs.has [(0, .d (.list _)), (1, .d (.list _)), (5, .ref 0 0), (6, .d (.bool false)), (7, .d (.bool true)), (8, .ref 3 0)] ⟨rfl, rfl, rfl, rfl, rfl, rfl, trivial⟩ ?_
    refine Runs.rseq ?_
    refine RO.opv (v' := .ref 3 0) (opv_move rfl) rfl ?_
    refine RO.opv (v' := .d (.bool true)) (opv_nenil_ref rfl rfl rfl) rfl ?_
    refine RO.opv (v' := .d (.bool true)) (opv_move rfl) rfl ?_
    refine RO.opgv (v' := .d (.bool true)) rfl (opv_move rfl) rfl ?_
    refine RO.opv (v' := .d (.bool true)) (opv_pick rfl rfl) rfl ?_
    refine RO.opv (v' := .d (.bool true)) (opv_assign rfl) rfl ?_
    refine RO.nil ?_
    refine Runs.ret ?_
    refine thenQ_ret ?_
    refine EndQ.tmp (.inr rfl) rfl rfl 0 (by exact Nat.le_refl _) (by exact Nat.zero_le _) trivial ⟨?_, rfl⟩
    rfl
  · try simp only [decide_eq_true_eq, decide_eq_false_iff_not, beq_iff_eq, beq_eq_false_iff_ne, bne_iff_ne, bne_eq_false_iff_eq, Int.not_lt, Int.not_le, ne_eq, Bool.not_eq_true', Bool.not_eq_false', gt_iff_lt, ge_iff_le] at h1
    refine RO.nil ?_
    refine Runs.condF rfl ?_
    refine Runs.skip ?_
    refine thenQ_normal ?_
    refine Runs.has [(0, .d (.list _)), (1, .d (.list _)), (5, .ref 0 0), (6, .d (.bool false)), (7, .d (.bool true)), (8, .ref 3 0)] ⟨rfl, rfl, rfl, rfl, rfl, rfl, trivial⟩ ?_
    refine Runs.rseq ?_
    refine RO.opv (v' := .ref 3 0) (opv_move rfl) rfl ?_
    refine RO.opn (O' := [_, _, _, _]) (opv_callS 1 3 (fresh_fn e0 12 (Nat.zero_le _)) rfl rfl rfl (Nat.le_of_ble_eq_true rfl) rfl (AV.bds_of_B _ rfl)) rfl rfl ?_
    refine RO.nil ?_
    refine Runs.has [(0, .d (.list _)), (1, .d (.list _)), (5, .ref 0 0), (6, .d (.bool false)), (7, .d (.bool true)), (8, .ref 3 0)] ⟨rfl, rfl, rfl, rfl, rfl, rfl, trivial⟩ ?_
    refine Runs.seq ?_
    refine Runs.rseq ?_
    refine RO.opv (v' := .d (.int _ _)) (opv_assign rfl) rfl ?_
    refine RO.nil ?_
    refine Runs.block ?_
    refine Runs.loopC (X := (Nat × St)) (fun x => x.1 ≤ l.length ∧ x.1 ≤ 30 ∧ x.2.Ok (2 ^ 20)) (fun x => l.length - x.1) [(0, .d (.list _)), (1, .d (.list _)), (5, .ref 0 0), (6, .d (.bool false)), (7, .d (.bool true)), (8, .ref 3 0)] (fun x => [(9, .d (.int .i64 (x.1 : Nat)))]) [_] (fun x => [.buf 62 5 (encCells (x.2).cs) (x.2).v1, .buf 3 1 (ints (x.2).tr) (x.2).v2, .cells [.own 1 (x.2).v1, .own 2 (x.2).v2]]) (((0 : Nat), (e0.fresh 12).1)) ⟨rfl, rfl, rfl, rfl, rfl, rfl, trivial⟩ ⟨rfl, trivial⟩ rfl ⟨Nat.zero_le _, Nat.zero_le _, e0_ok.fresh 12⟩ fun x hi => ?_
    refine Runs.seq ?_
    refine Runs.rseq ?_
    refine RO.opv (v' := .d (.int _ _)) (opv_move rfl) rfl ?_
    refine RO.opv (v' := .d (.list _)) (opv_move rfl) rfl ?_
    refine RO.opv (v' := .d (.int _ _)) (opv_len rfl rfl rfl) rfl ?_
    refine RO.opv (v' := .d (.bool _)) (opv_bin rfl rfl rfl) rfl ?_
    refine RO.opc (opv_move rfl) (fun h2 => ?_) (fun h2 => ?_)
    · try simp only [decide_eq_true_eq, decide_eq_false_iff_not, beq_iff_eq, beq_eq_false_iff_ne, bne_iff_ne, bne_eq_false_iff_eq, Int.not_lt, Int.not_le, ne_eq, Bool.not_eq_true', Bool.not_eq_false', gt_iff_lt, ge_iff_le] at h2
      have hk : x.1 < l.length := by omega
      refine RO.opgv (v' := .d (.int _ _)) rfl (opv_move rfl) rfl ?_
      refine RO.opgv (v' := .d (.bool _)) rfl (opv_bin rfl rfl rfl) rfl ?_
      refine RO.opc (opv_pick rfl rfl) (fun h3 => ?_) (fun h3 => ?_)
      · try simp only [decide_eq_true_eq, decide_eq_false_iff_not, beq_iff_eq, beq_eq_false_iff_ne, bne_iff_ne, bne_eq_false_iff_eq, Int.not_lt, Int.not_le, ne_eq, Bool.not_eq_true', Bool.not_eq_false', gt_iff_lt, ge_iff_le] at h3
        refine RO.nil ?_
        refine Runs.condT rfl ?_
        refine Runs.skip ?_
        refine thenQ_normal ?_
        refine Runs.has [(0, .d (.list _)), (1, .d (.list _)), (5, .ref 0 0), (6, .d (.bool false)), (7, .d (.bool true)), (8, .ref 3 0), (9, .d (.int _ _))] ⟨rfl, rfl, rfl, rfl, rfl, rfl, rfl, trivial⟩ ?_
        refine Runs.seq ?_
        refine Runs.block ?_
        refine Runs.rseq ?_
        refine RO.opv (v' := .d (.list _)) (opv_move rfl) rfl ?_
        refine RO.opv (v' := .d (.int _ _)) (opv_move rfl) rfl ?_
        refine RO.opv (v' := .d (.ptr _)) (opv_index_list (y := encDeed (l[x.1]'hk)) rfl rfl (Int.natCast_nonneg _) (by simp [hk]) rfl) rfl ?_
        refine RO.opv (v' := .d (.ptr _)) (opv_field_ptr rfl) rfl ?_
        refine RO.opv (v' := .d (enc _)) (opv_load_pterm (u := (l[x.1]'hk).t) rfl) rfl ?_
        refine RO.opc (opv_callF (few_fn (l[x.1]'hk).t (by have := g1 _ (List.getElem_mem hk); omega)) rfl rfl rfl trivial) (fun h4 => ?_) (fun h4 => ?_)
        · try simp only [decide_eq_true_eq, decide_eq_false_iff_not, beq_iff_eq, beq_eq_false_iff_ne, bne_iff_ne, bne_eq_false_iff_eq, Int.not_lt, Int.not_le, ne_eq, Bool.not_eq_true', Bool.not_eq_false', gt_iff_lt, ge_iff_le] at h4
          refine RO.nil ?_
          refine Runs.condT rfl ?_
          refine Runs.has [(0, .d (.list _)), (1, .d (.list _)), (5, .ref 0 0), (6, .d (.bool false)), (7, .d (.bool true)), (8, .ref 3 0), (9, .d (.int _ _))] ⟨rfl, rfl, rfl, rfl, rfl, rfl, rfl, trivial⟩ ?_
          refine Runs.drawn (by kernel_rfl) [] [false, false, false, false, false, false, false, false, false, false, false, false] [false, false, false, false, false, false, false, false, false, false, false, true] (by decide +kernel) ?_
          refine RD.opv (v' := .ref 3 0) (opv_move rfl) rfl ?_
          refine RD.opv (v' := .d (.list _)) (opv_move rfl) rfl ?_
          refine RD.opv (v' := .d (.int _ _)) (opv_move rfl) rfl ?_
          refine RD.opv (v' := .d (.ptr _)) (opv_index_list (y := encDeed (l[x.1]'hk)) rfl rfl (Int.natCast_nonneg _) (by simp [hk]) rfl) rfl ?_
          refine RD.opv (v' := .d (.ptr _)) (opv_field_ptr rfl) rfl ?_
          refine RD.opv (v' := .d (.int _ _)) (opv_load_ptr rfl rfl) rfl ?_
          refine RD.opv (v' := .d (.list _)) (opv_move rfl) rfl ?_
          refine RD.opv (v' := .d (.int _ _)) (opv_move rfl) rfl ?_
          refine RD.opv (v' := .d (.ptr _)) (opv_index_list (y := encDeed (l[x.1]'hk)) rfl rfl (Int.natCast_nonneg _) (by simp [hk]) rfl) rfl ?_
          refine RD.opv (v' := .d (.ptr _)) (opv_field_ptr rfl) rfl ?_
          refine RD.opv (v' := .d (enc _)) (opv_load_pterm (u := (l[x.1]'hk).t) rfl) rfl ?_
          refine RD.opn (v' := .d (.int _ _)) (O' := [_, _, _, _]) (opv_callS 1 3 (bind_fn x.2 (l[x.1]'hk).n (l[x.1]'hk).t (hi.2.2.small' (Nat.le_of_ble_eq_true rfl)) (by have := g1 _ (List.getElem_mem hk); omega) (Nat.le_trans hi.2.2.len (Nat.le_of_ble_eq_true rfl)) (Nat.lt_of_le_of_lt hi.2.2.trl (Nat.lt_of_sub_pos (by decide)))) rfl rfl rfl (Nat.le_of_ble_eq_true rfl) rfl (AV.bds_of_B _ rfl)) rfl rfl trivial ?_
          refine RD.nil ?_
          refine blockQ_normal ?_
          refine thenQ_normal ?_
          refine Runs.has [(0, .d (.list _)), (1, .d (.list _)), (5, .ref 0 0), (6, .d (.bool false)), (7, .d (.bool true)), (8, .ref 3 0), (9, .d (.int _ _))] ⟨rfl, rfl, rfl, rfl, rfl, rfl, rfl, trivial⟩ ?_
          refine Runs.region ?_
          refine RO.opv (v' := .d (.int _ _)) (opv_move rfl) rfl ?_
          refine RO.opv (v' := .d (.int _ _)) (opv_arith rfl rfl (binD_add (r := ((x.1 + 1 : Nat) : Int)) (by refine (wrap64 ?_ ?_).trans ?_ <;> omega))) rfl ?_
          refine RO.opv (v' := .d (.int _ _)) (opv_assign rfl) rfl ?_
          refine RO.nil ?_
          refine thenQ_normal ?_
          refine ⟨(x.1 + 1, (x.2.bind (l[x.1]'hk).n (l[x.1]'hk).t).1), 4, (by rw [hK]; exact Nat.le_of_ble_eq_true rfl), ⟨rfl, rfl, rfl, rfl, rfl, rfl, trivial⟩, ⟨?_, trivial⟩, rfl, ?_, ?_⟩
          · rfl
          · exact ⟨hk, by show x.1 + 1 ≤ 30; omega, hi.2.2.bind _ _ (g1 _ (List.getElem_mem hk))⟩
          · show l.length - (x.1 + 1) < _; omega
        · try simp only [decide_eq_true_eq, decide_eq_false_iff_not, beq_iff_eq, beq_eq_false_iff_ne, bne_iff_ne, bne_eq_false_iff_eq, Int.not_lt, Int.not_le, ne_eq, Bool.not_eq_true', Bool.not_eq_false', gt_iff_lt, ge_iff_le] at h4
          refine RO.nil ?_
          refine Runs.condF rfl ?_
          refine Runs.skip ?_
          refine blockQ_normal ?_
          refine thenQ_normal ?_
          refine Runs.has [(0, .d (.list _)), (1, .d (.list _)), (5, .ref 0 0), (6, .d (.bool false)), (7, .d (.bool true)), (8, .ref 3 0), (9, .d (.int _ _))] ⟨rfl, rfl, rfl, rfl, rfl, rfl, rfl, trivial⟩ ?_
          refine Runs.region ?_
          refine RO.opv (v' := .d (.int _ _)) (opv_move rfl) rfl ?_
          refine RO.opv (v' := .d (.int _ _)) (opv_arith rfl rfl (binD_add (r := ((x.1 + 1 : Nat) : Int)) (by refine (wrap64 ?_ ?_).trans ?_ <;> omega))) rfl ?_
          refine RO.opv (v' := .d (.int _ _)) (opv_assign rfl) rfl ?_
          refine RO.nil ?_
          refine thenQ_normal ?_
          refine ⟨(x.1 + 1, x.2), 4, (by rw [hK]; exact Nat.le_of_ble_eq_true rfl), ⟨rfl, rfl, rfl, rfl, rfl, rfl, trivial⟩, ⟨?_, trivial⟩, rfl, ?_, ?_⟩
          · rfl
          · exact ⟨hk, by show x.1 + 1 ≤ 30; omega, hi.2.2⟩
          · show l.length - (x.1 + 1) < _; omega
      · try simp only [decide_eq_true_eq, decide_eq_false_iff_not, beq_iff_eq, beq_eq_false_iff_ne, bne_iff_ne, bne_eq_false_iff_eq, Int.not_lt, Int.not_le, ne_eq, Bool.not_eq_true', Bool.not_eq_false', gt_iff_lt, ge_iff_le] at h3
        refine RO.nil ?_
        refine Runs.condF rfl ?_
        refine Runs.exit ?_
        refine thenQ_exit ?_
        refine thenQ_exit ?_
        refine blockQ_here ?_
        refine thenQ_normal ?_
        refine Runs.has [(1, .d (.list _)), (5, .ref 0 0), (6, .d (.bool false)), (7, .d (.bool true)), (8, .ref 3 0)] ⟨rfl, rfl, rfl, rfl, rfl, trivial⟩ ?_
        have hok1 := hi.2.2
        have hfb := full_bulk (t := t) hok1.small (by omega)
        have hwb : ∀ v : Int, (x.2.wk (lets v)).bulk ≤ 2 ^ 20 := fun v => wk_bulk hok1.small _ (hlb v)
        refine Runs.rseq ?_
        refine RO.opv (v' := .ref 3 0) (opv_move rfl) rfl ?_
        refine RO.opn (v' := .d (.int _ _)) (O' := [_, _, _, _]) (opv_callS 1 3 (mark_fn x.2) rfl rfl rfl (Nat.le_of_ble_eq_true rfl) rfl (AV.bds_of_B _ rfl)) rfl rfl ?_
        refine RO.opv (v' := .d (.int _ _)) (opv_assign rfl) rfl ?_
        refine RO.nil ?_
        refine Runs.has [(1, .d (.list _)), (5, .ref 0 0), (6, .d (.bool false)), (7, .d (.bool true)), (8, .ref 3 0), (10, .d (.int _ _))] ⟨rfl, rfl, rfl, rfl, rfl, rfl, trivial⟩ ?_
        refine Runs.rseq ?_
        refine RO.opv (v' := .ref 3 0) (opv_move rfl) rfl ?_
        refine RO.opv (v' := .d (enc _)) (opv_load_term rfl rfl rfl) rfl ?_
        refine RO.opn (O' := [_, _, _, _]) (opv_callS 1 3 (full_fn x.2 t (hok1.small' (Nat.le_of_ble_eq_true rfl)) hok1.ends (by omega)) rfl rfl rfl (Nat.le_of_ble_eq_true rfl) rfl (AV.bds_of_B _ rfl)) rfl rfl ?_
        refine RO.opv (opv_move rfl) rfl ?_
        refine RO.opv (v' := .d (enc _)) (opv_extract rfl rfl) rfl ?_
        refine RO.opv (v' := .d (.int _ _)) (opv_extract rfl rfl) rfl ?_
        refine RO.opn (v' := .ref 4 0) (O' := [_, _, _, _, _]) (opv_alloc) rfl rfl ?_
        refine RO.op0n (O' := [_, _, _, _, _]) (opv_store_term rfl rfl rfl (Nat.le_of_ble_eq_true rfl)) rfl ?_
        refine RO.opv (v' := .d (.int _ _)) (opv_assign rfl) rfl ?_
        refine RO.nil ?_
        refine Runs.has [(1, .d (.list _)), (5, .ref 0 0), (6, .d (.bool false)), (7, .d (.bool true)), (8, .ref 3 0), (10, .d (.int _ _)), (11, .ref 4 0), (12, .d (.int _ _))] ⟨rfl, rfl, rfl, rfl, rfl, rfl, rfl, rfl, trivial⟩ ?_
        refine Runs.rseq ?_
        refine RO.opv (v' := .nil0) (opv_assign rfl) rfl ?_
        refine RO.nil ?_
        refine Runs.seq ?_
        refine Runs.adopt 13 24 4 rfl ?_
        refine Runs.rseq ?_
        refine RO.opv (v' := .d (.int _ _)) (opv_assign rfl) rfl ?_
        refine RO.nil ?_
        refine Runs.block ?_
        refine Runs.loopC (X := Nat) (fun i => i ≤ 12) (fun i => 12 - i) [(1, .d (.list _)), (5, .ref 0 0), (6, .d (.bool false)), (7, .d (.bool true)), (8, .ref 3 0), (10, .d (.int _ _)), (11, .ref 4 0), (12, .d (.int _ _))] (fun i => [(13, .own 5 (1 + i)), (14, .d (.int .i64 (i : Nat)))]) [_, _, _, _, _] (fun i => [.buf 24 4 (encs ((List.range i).map fun (j : Nat) => x.2.wk (lets (j : Int)))) (1 + i)]) (0) ⟨rfl, rfl, rfl, rfl, rfl, rfl, rfl, rfl, trivial⟩ ⟨rfl, rfl, trivial⟩ rfl (by omega) fun i hi2 => ?_
        refine Runs.seq ?_
        refine Runs.rseq ?_
        refine RO.opv (v' := .d (.int _ _)) (opv_move rfl) rfl ?_
        refine RO.opc (opv_bin rfl rfl rfl) (fun h5 => ?_) (fun h5 => ?_)
        · try simp only [decide_eq_true_eq, decide_eq_false_iff_not, beq_iff_eq, beq_eq_false_iff_ne, bne_iff_ne, bne_eq_false_iff_eq, Int.not_lt, Int.not_le, ne_eq, Bool.not_eq_true', Bool.not_eq_false', gt_iff_lt, ge_iff_le] at h5
          have hk3 : i < 12 := by omega
          refine RO.nil ?_
          refine Runs.condT rfl ?_
          refine Runs.skip ?_
          refine thenQ_normal ?_
          refine Runs.has [(1, .d (.list _)), (5, .ref 0 0), (6, .d (.bool false)), (7, .d (.bool true)), (8, .ref 3 0), (10, .d (.int _ _)), (11, .ref 4 0), (12, .d (.int _ _)), (13, .own 5 _), (14, .d (.int _ _))] ⟨rfl, rfl, rfl, rfl, rfl, rfl, rfl, rfl, rfl, rfl, trivial⟩ ?_
          refine Runs.seq ?_
          refine Runs.block ?_
          refine Runs.region ?_
          refine RO.opv (v' := .own 5 _) (opv_move rfl) rfl ?_
          refine RO.opv (v' := .ref 3 0) (opv_move rfl) rfl ?_
          refine RO.opv (v' := .d (.int _ _)) (opv_move rfl) rfl ?_
          refine RO.opv (v' := .d (enc _)) (opv_callF (let_fn (i : Int)) rfl rfl rfl trivial) rfl ?_
          refine RO.opn (v' := .d (enc _)) (O' := [_, _, _, _, _, _]) (opv_callS 1 3 (wk_fn x.2 (lets (i : Int)) (hok1.ends _)) rfl rfl rfl (Nat.le_of_ble_eq_true rfl) rfl (AV.bds_of_B _ rfl)) rfl rfl ?_
          refine RO.opv (v' := .d (.list (encs _))) (opv_bs_term1 rfl ) rfl ?_
          refine RO.opn (v' := .own 5 _) (O' := [_, _, _, _, _, _]) (opv_append_terms rfl rfl rfl (by simp; omega)) rfl rfl ?_
          refine RO.opv (v' := .own 5 _) (opv_assign rfl) rfl ?_
          refine RO.nil ?_
          refine blockQ_normal ?_
          refine thenQ_normal ?_
          refine Runs.has [(1, .d (.list _)), (5, .ref 0 0), (6, .d (.bool false)), (7, .d (.bool true)), (8, .ref 3 0), (10, .d (.int _ _)), (11, .ref 4 0), (12, .d (.int _ _)), (13, .own 5 _), (14, .d (.int _ _))] ⟨rfl, rfl, rfl, rfl, rfl, rfl, rfl, rfl, rfl, rfl, trivial⟩ ?_
          refine Runs.region ?_
          refine RO.opv (v' := .d (.int _ _)) (opv_move rfl) rfl ?_
          refine RO.opv (v' := .d (.int _ _)) (opv_arith rfl rfl (binD_add (r := ((i + 1 : Nat) : Int)) (by refine (wrap64 ?_ ?_).trans ?_ <;> omega))) rfl ?_
          refine RO.opv (v' := .d (.int _ _)) (opv_assign rfl) rfl ?_
          refine RO.nil ?_
          refine thenQ_normal ?_
          refine ⟨i + 1, 6, (by rw [hK]; exact Nat.le_of_ble_eq_true rfl), ⟨rfl, rfl, rfl, rfl, rfl, rfl, rfl, rfl, trivial⟩, ⟨?_, ?_, trivial⟩, ?_, ?_, ?_⟩
          · rfl
          · rfl
          · rw [List.range_succ, List.map_append]; rfl
          · omega
          · omega
        · try simp only [decide_eq_true_eq, decide_eq_false_iff_not, beq_iff_eq, beq_eq_false_iff_ne, bne_iff_ne, bne_eq_false_iff_eq, Int.not_lt, Int.not_le, ne_eq, Bool.not_eq_true', Bool.not_eq_false', gt_iff_lt, ge_iff_le] at h5
          obtain rfl : i = 12 := by omega
          refine RO.nil ?_
          refine Runs.condF rfl ?_
          refine Runs.exit ?_
          refine thenQ_exit ?_
          refine thenQ_exit ?_
          refine blockQ_here ?_
          refine thenQ_normal ?_
          refine Runs.has [(1, .d (.list _)), (5, .ref 0 0), (6, .d (.bool false)), (7, .d (.bool true)), (8, .ref 3 0), (10, .d (.int _ _)), (11, .ref 4 0), (12, .d (.int _ _)), (13, .own 5 _)] ⟨rfl, rfl, rfl, rfl, rfl, rfl, rfl, rfl, rfl, trivial⟩ ?_
          refine Runs.seq ?_
          refine Runs.shut 13 rfl rfl ?_
          refine Runs.rseq ?_
          refine RO.opv (v' := .d (.int _ _)) (opv_assign rfl) rfl ?_
          refine RO.nil ?_
          refine Runs.block ?_
          refine Runs.loopC (X := (Nat × St)) (fun y => y.1 ≤ m.length ∧ y.1 ≤ 30 ∧ y.2.Ok (2 ^ 20) ∧ Later x.2 y.2) (fun y => m.length - y.1) [(1, .d (.list _)), (5, .ref 0 0), (6, .d (.bool false)), (7, .d (.bool true)), (8, .ref 3 0), (10, .d (.int _ _)), (11, .ref 4 0), (12, .d (.int _ _)), (13, .d (.list (encs _)))] (fun y => [(15, .d (.int .i64 (y.1 : Nat)))]) [_] (fun y => [.buf 62 5 (encCells (y.2).cs) (y.2).v1, .buf 3 1 (ints (y.2).tr) (y.2).v2, .cells [.own 1 (y.2).v1, .own 2 (y.2).v2], .cells (cellsT (x.2.full t).1), .dead]) (((0 : Nat), x.2)) ⟨rfl, rfl, rfl, rfl, rfl, rfl, rfl, rfl, rfl, trivial⟩ ⟨rfl, trivial⟩ rfl ⟨Nat.zero_le _, Nat.zero_le _, hok1, Later.refl _⟩ fun y hj => ?_
          refine Runs.seq ?_
          refine Runs.rseq ?_
          refine RO.opv (v' := .d (.int _ _)) (opv_move rfl) rfl ?_
          refine RO.opv (v' := .d (.list _)) (opv_move rfl) rfl ?_
          refine RO.opv (v' := .d (.int _ _)) (opv_len rfl rfl rfl) rfl ?_
          refine RO.opv (v' := .d (.bool _)) (opv_bin rfl rfl rfl) rfl ?_
          refine RO.opc (opv_move rfl) (fun h6 => ?_) (fun h6 => ?_)
          · try simp only [decide_eq_true_eq, decide_eq_false_iff_not, beq_iff_eq, beq_eq_false_iff_ne, bne_iff_ne, bne_eq_false_iff_eq, Int.not_lt, Int.not_le, ne_eq, Bool.not_eq_true', Bool.not_eq_false', gt_iff_lt, ge_iff_le] at h6
            have hk2 : y.1 < m.length := by omega
            refine RO.opgv (v' := .d (.int _ _)) rfl (opv_move rfl) rfl ?_
            refine RO.opgv (v' := .d (.bool _)) rfl (opv_bin rfl rfl rfl) rfl ?_
            refine RO.opc (opv_pick rfl rfl) (fun h7 => ?_) (fun h7 => ?_)
            · try simp only [decide_eq_true_eq, decide_eq_false_iff_not, beq_iff_eq, beq_eq_false_iff_ne, bne_iff_ne, bne_eq_false_iff_eq, Int.not_lt, Int.not_le, ne_eq, Bool.not_eq_true', Bool.not_eq_false', gt_iff_lt, ge_iff_le] at h7
              refine RO.nil ?_
              refine Runs.condT rfl ?_
              refine Runs.skip ?_
              refine thenQ_normal ?_
              refine Runs.has [(1, .d (.list _)), (5, .ref 0 0), (6, .d (.bool false)), (7, .d (.bool true)), (8, .ref 3 0), (10, .d (.int _ _)), (11, .ref 4 0), (12, .d (.int _ _)), (13, .d (.list (encs _))), (15, .d (.int _ _))] ⟨rfl, rfl, rfl, rfl, rfl, rfl, rfl, rfl, rfl, rfl, trivial⟩ ?_
              refine Runs.seq ?_
              refine Runs.block ?_
              refine Runs.rseq ?_
              refine RO.opv (v' := .d (.list _)) (opv_move rfl) rfl ?_
              refine RO.opv (v' := .d (.int _ _)) (opv_move rfl) rfl ?_
              refine RO.opv (v' := .d (.ptr _)) (opv_index_list (y := encDeed (m[y.1]'hk2)) rfl rfl (Int.natCast_nonneg _) (by simp [hk2]) rfl) rfl ?_
              refine RO.opv (v' := .d (.ptr _)) (opv_field_ptr rfl) rfl ?_
              refine RO.opv (v' := .d (enc _)) (opv_load_pterm (u := (m[y.1]'hk2).t) rfl) rfl ?_
              refine RO.opc (opv_callF (few_fn (m[y.1]'hk2).t (by have := g2 _ (List.getElem_mem hk2); omega)) rfl rfl rfl trivial) (fun h8 => ?_) (fun h8 => ?_)
              · try simp only [decide_eq_true_eq, decide_eq_false_iff_not, beq_iff_eq, beq_eq_false_iff_ne, bne_iff_ne, bne_eq_false_iff_eq, Int.not_lt, Int.not_le, ne_eq, Bool.not_eq_true', Bool.not_eq_false', gt_iff_lt, ge_iff_le] at h8
                refine RO.nil ?_
                refine Runs.condT rfl ?_
                refine Runs.has [(1, .d (.list _)), (5, .ref 0 0), (6, .d (.bool false)), (7, .d (.bool true)), (8, .ref 3 0), (10, .d (.int _ _)), (11, .ref 4 0), (12, .d (.int _ _)), (13, .d (.list (encs _))), (15, .d (.int _ _))] ⟨rfl, rfl, rfl, rfl, rfl, rfl, rfl, rfl, rfl, rfl, trivial⟩ ?_
                refine Runs.drawn (by kernel_rfl) [] [false, false, false, false, false, false, false, false, false, false, false, false] [false, false, false, false, false, false, false, false, false, false, false, true] (by decide +kernel) ?_
                refine RD.opv (v' := .ref 3 0) (opv_move rfl) rfl ?_
                refine RD.opv (v' := .d (.list _)) (opv_move rfl) rfl ?_
                refine RD.opv (v' := .d (.int _ _)) (opv_move rfl) rfl ?_
                refine RD.opv (v' := .d (.ptr _)) (opv_index_list (y := encDeed (m[y.1]'hk2)) rfl rfl (Int.natCast_nonneg _) (by simp [hk2]) rfl) rfl ?_
                refine RD.opv (v' := .d (.ptr _)) (opv_field_ptr rfl) rfl ?_
                refine RD.opv (v' := .d (.int _ _)) (opv_load_ptr rfl rfl) rfl ?_
                refine RD.opv (v' := .d (.list _)) (opv_move rfl) rfl ?_
                refine RD.opv (v' := .d (.int _ _)) (opv_move rfl) rfl ?_
                refine RD.opv (v' := .d (.ptr _)) (opv_index_list (y := encDeed (m[y.1]'hk2)) rfl rfl (Int.natCast_nonneg _) (by simp [hk2]) rfl) rfl ?_
                refine RD.opv (v' := .d (.ptr _)) (opv_field_ptr rfl) rfl ?_
                refine RD.opv (v' := .d (enc _)) (opv_load_pterm (u := (m[y.1]'hk2).t) rfl) rfl ?_
                refine RD.opn (v' := .d (.int _ _)) (O' := [_, _, _, _, _, _]) (opv_callS 1 3 (bind_fn y.2 (m[y.1]'hk2).n (m[y.1]'hk2).t (hj.2.2.1.small' (Nat.le_of_ble_eq_true rfl)) (by have := g2 _ (List.getElem_mem hk2); omega) (Nat.le_trans hj.2.2.1.len (Nat.le_of_ble_eq_true rfl)) (Nat.lt_of_le_of_lt hj.2.2.1.trl (Nat.lt_of_sub_pos (by decide)))) rfl rfl rfl (Nat.le_of_ble_eq_true rfl) rfl (AV.bds_of_B _ rfl)) rfl rfl trivial ?_
                refine RD.nil ?_
                refine blockQ_normal ?_
                refine thenQ_normal ?_
                refine Runs.has [(1, .d (.list _)), (5, .ref 0 0), (6, .d (.bool false)), (7, .d (.bool true)), (8, .ref 3 0), (10, .d (.int _ _)), (11, .ref 4 0), (12, .d (.int _ _)), (13, .d (.list (encs _))), (15, .d (.int _ _))] ⟨rfl, rfl, rfl, rfl, rfl, rfl, rfl, rfl, rfl, rfl, trivial⟩ ?_
                refine Runs.region ?_
                refine RO.opv (v' := .d (.int _ _)) (opv_move rfl) rfl ?_
                refine RO.opv (v' := .d (.int _ _)) (opv_arith rfl rfl (binD_add (r := ((y.1 + 1 : Nat) : Int)) (by refine (wrap64 ?_ ?_).trans ?_ <;> omega))) rfl ?_
                refine RO.opv (v' := .d (.int _ _)) (opv_assign rfl) rfl ?_
                refine RO.nil ?_
                refine thenQ_normal ?_
                refine ⟨(y.1 + 1, (y.2.bind (m[y.1]'hk2).n (m[y.1]'hk2).t).1), 6, (by rw [hK]; exact Nat.le_of_ble_eq_true rfl), ⟨rfl, rfl, rfl, rfl, rfl, rfl, rfl, rfl, rfl, trivial⟩, ⟨?_, trivial⟩, rfl, ?_, ?_⟩
                · rfl
                · exact ⟨hk2, by show y.1 + 1 ≤ 30; omega, hj.2.2.1.bind _ _ (g2 _ (List.getElem_mem hk2)), hj.2.2.2.bind hj.2.2.1 _ _⟩
                · show m.length - (y.1 + 1) < _; omega
              · try simp only [decide_eq_true_eq, decide_eq_false_iff_not, beq_iff_eq, beq_eq_false_iff_ne, bne_iff_ne, bne_eq_false_iff_eq, Int.not_lt, Int.not_le, ne_eq, Bool.not_eq_true', Bool.not_eq_false', gt_iff_lt, ge_iff_le] at h8
                refine RO.nil ?_
                refine Runs.condF rfl ?_
                refine Runs.skip ?_
                refine blockQ_normal ?_
                refine thenQ_normal ?_
                refine Runs.has [(1, .d (.list _)), (5, .ref 0 0), (6, .d (.bool false)), (7, .d (.bool true)), (8, .ref 3 0), (10, .d (.int _ _)), (11, .ref 4 0), (12, .d (.int _ _)), (13, .d (.list (encs _))), (15, .d (.int _ _))] ⟨rfl, rfl, rfl, rfl, rfl, rfl, rfl, rfl, rfl, rfl, trivial⟩ ?_
                refine Runs.region ?_
                refine RO.opv (v' := .d (.int _ _)) (opv_move rfl) rfl ?_
                refine RO.opv (v' := .d (.int _ _)) (opv_arith rfl rfl (binD_add (r := ((y.1 + 1 : Nat) : Int)) (by refine (wrap64 ?_ ?_).trans ?_ <;> omega))) rfl ?_
                refine RO.opv (v' := .d (.int _ _)) (opv_assign rfl) rfl ?_
                refine RO.nil ?_
                refine thenQ_normal ?_
                refine ⟨(y.1 + 1, y.2), 6, (by rw [hK]; exact Nat.le_of_ble_eq_true rfl), ⟨rfl, rfl, rfl, rfl, rfl, rfl, rfl, rfl, rfl, trivial⟩, ⟨?_, trivial⟩, rfl, ?_, ?_⟩
                · rfl
                · exact ⟨hk2, by show y.1 + 1 ≤ 30; omega, hj.2.2⟩
                · show m.length - (y.1 + 1) < _; omega
            · try simp only [decide_eq_true_eq, decide_eq_false_iff_not, beq_iff_eq, beq_eq_false_iff_ne, bne_iff_ne, bne_eq_false_iff_eq, Int.not_lt, Int.not_le, ne_eq, Bool.not_eq_true', Bool.not_eq_false', gt_iff_lt, ge_iff_le] at h7
              refine RO.nil ?_
              refine Runs.condF rfl ?_
              refine Runs.exit ?_
              refine thenQ_exit ?_
              refine thenQ_exit ?_
              refine blockQ_here ?_
              refine thenQ_normal ?_
              refine Runs.has [(5, .ref 0 0), (6, .d (.bool false)), (7, .d (.bool true)), (8, .ref 3 0), (10, .d (.int _ _)), (11, .ref 4 0), (12, .d (.int _ _)), (13, .d (.list (encs _)))] ⟨rfl, rfl, rfl, rfl, rfl, rfl, rfl, rfl, trivial⟩ ?_
              obtain ⟨_, _, hok3, hla⟩ := hj
              have hun := hla.undo
              have hok4 : (y.2.undo (x.2.tr.length : Int)).Ok (2 ^ 20) := hok1.congr hun.1.symm hun.2.symm
              have hf4 : ((y.2.undo (x.2.tr.length : Int)).full t) = (x.2.full t) := full_cs hun.1 t
              have hw4 : (y.2.undo (x.2.tr.length : Int)).wk = x.2.wk := wk_cs hun.1
              refine Runs.rseq ?_
              refine RO.opv (v' := .ref 3 0) (opv_move rfl) rfl ?_
              refine RO.opv (v' := .d (.int _ _)) (opv_move rfl) rfl ?_
              refine RO.opn (O' := [_, _, _, _, _, _]) (opv_callS 1 3 (undo_fn y.2 (x.2.tr.length : Int) (Nat.le_trans hok3.trl (Nat.le_of_ble_eq_true rfl)) hok3.inb) rfl rfl rfl (Nat.le_of_ble_eq_true rfl) rfl (AV.bds_of_B _ rfl)) rfl rfl ?_
              refine RO.nil ?_
              refine Runs.has [(5, .ref 0 0), (6, .d (.bool false)), (7, .d (.bool true)), (8, .ref 3 0), (10, .d (.int _ _)), (11, .ref 4 0), (12, .d (.int _ _)), (13, .d (.list (encs _)))] ⟨rfl, rfl, rfl, rfl, rfl, rfl, rfl, rfl, trivial⟩ ?_
              refine Runs.rseq ?_
              refine RO.opv (v' := .ref 3 0) (opv_move rfl) rfl ?_
              refine RO.opv (v' := .d (enc _)) (opv_load_term rfl rfl rfl) rfl ?_
              refine RO.opn (O' := [_, _, _, _, _, _]) (opv_callS 1 3 (full_fn (y.2.undo (x.2.tr.length : Int)) t (hok4.small' (Nat.le_of_ble_eq_true rfl)) hok4.ends (by omega)) rfl rfl rfl (Nat.le_of_ble_eq_true rfl) rfl (AV.bds_of_B _ rfl)) rfl rfl ?_
              refine RO.opv (opv_move rfl) rfl ?_
              refine RO.opv (v' := .d (enc _)) (opv_extract rfl rfl) rfl ?_
              refine RO.opv (v' := .d (.int _ _)) (opv_extract rfl rfl) rfl ?_
              refine RO.opn (v' := .ref 6 0) (O' := [_, _, _, _, _, _, _]) (opv_alloc) rfl rfl ?_
              refine RO.op0n (O' := [_, _, _, _, _, _, _]) (opv_store_term rfl rfl rfl (Nat.le_of_ble_eq_true rfl)) rfl ?_
              refine RO.opv (v' := .d (.int _ _)) (opv_assign rfl) rfl ?_
              refine RO.nil ?_
              refine Runs.has [(6, .d (.bool false)), (7, .d (.bool true)), (8, .ref 3 0), (10, .d (.int _ _)), (11, .ref 4 0), (12, .d (.int _ _)), (13, .d (.list (encs _))), (16, .ref 6 0), (17, .d (.int _ _))] ⟨rfl, rfl, rfl, rfl, rfl, rfl, rfl, rfl, rfl, trivial⟩ ?_
              refine Runs.seq ?_
              refine Runs.rseq ?_
              refine RO.opv (v' := .d (.int _ _)) (opv_assign rfl) rfl ?_
              refine RO.nil ?_
              refine Runs.block ?_
              refine Runs.loopC (X := Nat) (fun z => z ≤ 12) (fun z => 12 - z) [(7, .d (.bool true)), (8, .ref 3 0), (10, .d (.int _ _)), (11, .ref 4 0), (12, .d (.int _ _)), (13, .d (.list (encs _))), (16, .ref 6 0), (17, .d (.int _ _))] (fun z => [(18, .d (.int .i64 (z : Nat)))]) [_, _, _, _, _, _, _] (fun z => []) (0) ⟨rfl, rfl, rfl, rfl, rfl, rfl, rfl, rfl, trivial⟩ ⟨rfl, trivial⟩ rfl (by omega) fun z hz => ?_
              refine Runs.seq ?_
              refine Runs.rseq ?_
              refine RO.opv (v' := .d (.int _ _)) (opv_move rfl) rfl ?_
              refine RO.opc (opv_bin rfl rfl rfl) (fun h9 => ?_) (fun h9 => ?_)
              · try simp only [decide_eq_true_eq, decide_eq_false_iff_not, beq_iff_eq, beq_eq_false_iff_ne, bne_iff_ne, bne_eq_false_iff_eq, Int.not_lt, Int.not_le, ne_eq, Bool.not_eq_true', Bool.not_eq_false', gt_iff_lt, ge_iff_le] at h9
                have hk4 : z < 12 := by omega
                refine RO.nil ?_
                refine Runs.condT rfl ?_
                refine Runs.skip ?_
                refine thenQ_normal ?_
                refine Runs.has [(7, .d (.bool true)), (8, .ref 3 0), (10, .d (.int _ _)), (11, .ref 4 0), (12, .d (.int _ _)), (13, .d (.list (encs _))), (16, .ref 6 0), (17, .d (.int _ _)), (18, .d (.int _ _))] ⟨rfl, rfl, rfl, rfl, rfl, rfl, rfl, rfl, rfl, trivial⟩ ?_
                refine Runs.seq ?_
                refine Runs.block ?_
                refine Runs.seq ?_
                refine Runs.drawn (by kernel_rfl) [] [false, false, false, false, false, false, false, false, false, false] [false, false, false, false, false, false, false, false, false, false] (by decide +kernel) ?_
                refine RD.opv (v' := .ref 3 0) (opv_move rfl) rfl ?_
                refine RD.opv (v' := .d (.int _ _)) (opv_move rfl) rfl ?_
                refine RD.opv (v' := .d (enc _)) (opv_callF (let_fn (z : Int)) rfl rfl rfl trivial) rfl ?_
                refine RD.opq (v' := .d (enc _)) (opv_callS 1 3 (wk_fn (y.2.undo (x.2.tr.length : Int)) (lets (z : Int)) (hok4.ends _)) rfl rfl rfl (Nat.le_of_ble_eq_true rfl) rfl (AV.bds_of_B _ rfl)) rfl rfl ?_
                refine RD.opv (v' := .d (.list (encs _))) (opv_move rfl) rfl ?_
                refine RD.opv (v' := .d (.int _ _)) (opv_move rfl) rfl ?_
                refine RD.opv (v' := .d (.ptr _)) (opv_index_terms rfl rfl (by simp; omega)) rfl ?_
                refine RD.opv (v' := .d (enc _)) (opv_load_pterm rfl) rfl ?_
                refine RD.opv (v' := .d (.bool _)) (opv_callF (same_fn ((y.2.undo (x.2.tr.length : Int)).wk (lets (z : Int))) (((List.range 12).map fun (j : Nat) => x.2.wk (lets (j : Int)))[z]'(by simp; omega)) (by rw [hw4]; have := hwb z; omega) (by simp only [List.getElem_map]; have := hwb (((List.range 12)[z]'(by simp; omega) : Nat) : Int); omega)) rfl rfl rfl trivial) rfl ?_
                refine RD.opc (opv_not rfl rfl) (fun h10 => ?_) (fun h10 => ?_)
                · try simp only [decide_eq_true_eq, decide_eq_false_iff_not, beq_iff_eq, beq_eq_false_iff_ne, bne_iff_ne, bne_eq_false_iff_eq, Int.not_lt, Int.not_le, ne_eq, Bool.not_eq_true', Bool.not_eq_false', gt_iff_lt, ge_iff_le] at h10
                  rw [hw4] at h10; simp [same_refl] at h10
                · try simp only [decide_eq_true_eq, decide_eq_false_iff_not, beq_iff_eq, beq_eq_false_iff_ne, bne_iff_ne, bne_eq_false_iff_eq, Int.not_lt, Int.not_le, ne_eq, Bool.not_eq_true', Bool.not_eq_false', gt_iff_lt, ge_iff_le] at h10
                  refine RD.nil ?_
                  refine thenQ_normal ?_
                  refine Runs.condF rfl ?_
                  refine Runs.skip ?_
                  refine blockQ_normal ?_
                  refine thenQ_normal ?_
                  refine Runs.has [(7, .d (.bool true)), (8, .ref 3 0), (10, .d (.int _ _)), (11, .ref 4 0), (12, .d (.int _ _)), (13, .d (.list (encs _))), (16, .ref 6 0), (17, .d (.int _ _)), (18, .d (.int _ _))] ⟨rfl, rfl, rfl, rfl, rfl, rfl, rfl, rfl, rfl, trivial⟩ ?_
                  refine Runs.region ?_
                  refine RO.opv (v' := .d (.int _ _)) (opv_move rfl) rfl ?_
                  refine RO.opv (v' := .d (.int _ _)) (opv_arith rfl rfl (binD_add (r := ((z + 1 : Nat) : Int)) (by refine (wrap64 ?_ ?_).trans ?_ <;> omega))) rfl ?_
                  refine RO.opv (v' := .d (.int _ _)) (opv_assign rfl) rfl ?_
                  refine RO.nil ?_
                  refine thenQ_normal ?_
                  refine ⟨z + 1, 7, (by rw [hK]; exact Nat.le_of_ble_eq_true rfl), ⟨rfl, rfl, rfl, rfl, rfl, rfl, rfl, rfl, trivial⟩, ⟨?_, trivial⟩, rfl, ?_, ?_⟩
                  · rfl
                  · omega
                  · omega
              · try simp only [decide_eq_true_eq, decide_eq_false_iff_not, beq_iff_eq, beq_eq_false_iff_ne, bne_iff_ne, bne_eq_false_iff_eq, Int.not_lt, Int.not_le, ne_eq, Bool.not_eq_true', Bool.not_eq_false', gt_iff_lt, ge_iff_le] at h9
                skip
                refine RO.nil ?_
                refine Runs.condF rfl ?_
                refine Runs.exit ?_
                refine thenQ_exit ?_
                refine thenQ_exit ?_
                refine blockQ_here ?_
                refine thenQ_normal ?_
                refine Runs.has [(7, .d (.bool true)), (8, .ref 3 0), (10, .d (.int _ _)), (11, .ref 4 0), (12, .d (.int _ _)), (16, .ref 6 0), (17, .d (.int _ _))] ⟨rfl, rfl, rfl, rfl, rfl, rfl, rfl, trivial⟩ ?_
                refine Runs.rseq ?_
                refine RO.opv (v' := .d (.bool true)) (opv_move rfl) rfl ?_
                refine RO.opv (v' := .d (.bool true)) (opv_move rfl) rfl ?_
                refine RO.opgv (v' := .ref 3 0) rfl (opv_move rfl) rfl ?_
                refine RO.opgn (v' := .d (.int _ _)) (O' := [_, _, _, _, _, _, _]) rfl (opv_callS 1 3 (mark_fn (y.2.undo (x.2.tr.length : Int))) rfl rfl rfl (Nat.le_of_ble_eq_true rfl) rfl (AV.bds_of_B _ rfl)) rfl rfl ?_
                refine RO.opgv (v' := .d (.int _ _)) rfl (opv_move rfl) rfl ?_
                refine RO.opgv (v' := .d (.bool _)) rfl (opv_bin rfl rfl rfl) rfl ?_
                refine RO.opv (v' := .d (.bool _)) (opv_pick rfl rfl) rfl ?_
                refine RO.opc (opv_move rfl) (fun h11 => ?_) (fun h11 => ?_)
                · try simp only [decide_eq_true_eq, decide_eq_false_iff_not, beq_iff_eq, beq_eq_false_iff_ne, bne_iff_ne, bne_eq_false_iff_eq, Int.not_lt, Int.not_le, ne_eq, Bool.not_eq_true', Bool.not_eq_false', gt_iff_lt, ge_iff_le] at h11
                  refine RO.opgv (v' := .d (.int _ _)) rfl (opv_move rfl) rfl ?_
                  refine RO.opgv (v' := .d (.int _ _)) rfl (opv_move rfl) rfl ?_
                  refine RO.opgv (v' := .d (.bool _)) rfl (opv_bin rfl rfl rfl) rfl ?_
                  refine RO.opv (v' := .d (.bool _)) (opv_pick rfl rfl) rfl ?_
                  refine RO.opc (opv_move rfl) (fun h12 => ?_) (fun h12 => ?_)
                  · try simp only [decide_eq_true_eq, decide_eq_false_iff_not, beq_iff_eq, beq_eq_false_iff_ne, bne_iff_ne, bne_eq_false_iff_eq, Int.not_lt, Int.not_le, ne_eq, Bool.not_eq_true', Bool.not_eq_false', gt_iff_lt, ge_iff_le] at h12
                    refine RO.opgv (v' := .d (enc _)) rfl (opv_load_term rfl rfl rfl) rfl ?_
                    refine RO.opgv (v' := .d (enc _)) rfl (opv_load_term rfl rfl rfl) rfl ?_
                    refine RO.opgv (v' := .d (.bool _)) rfl (opv_callF (same_fn (x.2.full t).1 ((y.2.undo (x.2.tr.length : Int)).full t).1 hfb (by rw [hf4]; exact hfb)) rfl rfl rfl trivial) rfl ?_
                    refine RO.opv (v' := .d (.bool _)) (opv_pick rfl rfl) rfl ?_
                    refine RO.opv (v' := .d (.bool _)) (opv_assign rfl) rfl ?_
                    refine RO.nil ?_
                    refine Runs.ret ?_
                    refine EndQ.tmp (.inr rfl) rfl rfl 0 (by exact Nat.le_refl _) (by exact Nat.zero_le _) trivial ⟨?_, rfl⟩
                    refine bool_eq ?_; rw [hf4, same_refl]
                  · try simp only [decide_eq_true_eq, decide_eq_false_iff_not, beq_iff_eq, beq_eq_false_iff_ne, bne_iff_ne, bne_eq_false_iff_eq, Int.not_lt, Int.not_le, ne_eq, Bool.not_eq_true', Bool.not_eq_false', gt_iff_lt, ge_iff_le] at h12
                    exact absurd (by rw [hf4]) h12
                · try simp only [decide_eq_true_eq, decide_eq_false_iff_not, beq_iff_eq, beq_eq_false_iff_ne, bne_iff_ne, bne_eq_false_iff_eq, Int.not_lt, Int.not_le, ne_eq, Bool.not_eq_true', Bool.not_eq_false', gt_iff_lt, ge_iff_le] at h11
                  exact absurd (by rw [hun.2]) h11
          · try simp only [decide_eq_true_eq, decide_eq_false_iff_not, beq_iff_eq, beq_eq_false_iff_ne, bne_iff_ne, bne_eq_false_iff_eq, Int.not_lt, Int.not_le, ne_eq, Bool.not_eq_true', Bool.not_eq_false', gt_iff_lt, ge_iff_le] at h6
            skip
            refine RO.off rfl ?_
            refine RO.off rfl ?_
            refine RO.opv (v' := .d (.bool false)) (opv_pick rfl rfl) rfl ?_
            refine RO.nil ?_
            refine Runs.condF rfl ?_
            refine Runs.exit ?_
            refine thenQ_exit ?_
            refine thenQ_exit ?_
            refine blockQ_here ?_
            refine thenQ_normal ?_
            refine Runs.has [(5, .ref 0 0), (6, .d (.bool false)), (7, .d (.bool true)), (8, .ref 3 0), (10, .d (.int _ _)), (11, .ref 4 0), (12, .d (.int _ _)), (13, .d (.list (encs _)))] ⟨rfl, rfl, rfl, rfl, rfl, rfl, rfl, rfl, trivial⟩ ?_
            obtain ⟨_, _, hok3, hla⟩ := hj
            have hun := hla.undo
            have hok4 : (y.2.undo (x.2.tr.length : Int)).Ok (2 ^ 20) := hok1.congr hun.1.symm hun.2.symm
            have hf4 : ((y.2.undo (x.2.tr.length : Int)).full t) = (x.2.full t) := full_cs hun.1 t
            have hw4 : (y.2.undo (x.2.tr.length : Int)).wk = x.2.wk := wk_cs hun.1
            refine Runs.rseq ?_
            refine RO.opv (v' := .ref 3 0) (opv_move rfl) rfl ?_
            refine RO.opv (v' := .d (.int _ _)) (opv_move rfl) rfl ?_
            refine RO.opn (O' := [_, _, _, _, _, _]) (opv_callS 1 3 (undo_fn y.2 (x.2.tr.length : Int) (Nat.le_trans hok3.trl (Nat.le_of_ble_eq_true rfl)) hok3.inb) rfl rfl rfl (Nat.le_of_ble_eq_true rfl) rfl (AV.bds_of_B _ rfl)) rfl rfl ?_
            refine RO.nil ?_
            refine Runs.has [(5, .ref 0 0), (6, .d (.bool false)), (7, .d (.bool true)), (8, .ref 3 0), (10, .d (.int _ _)), (11, .ref 4 0), (12, .d (.int _ _)), (13, .d (.list (encs _)))] ⟨rfl, rfl, rfl, rfl, rfl, rfl, rfl, rfl, trivial⟩ ?_
            refine Runs.rseq ?_
            refine RO.opv (v' := .ref 3 0) (opv_move rfl) rfl ?_
            refine RO.opv (v' := .d (enc _)) (opv_load_term rfl rfl rfl) rfl ?_
            refine RO.opn (O' := [_, _, _, _, _, _]) (opv_callS 1 3 (full_fn (y.2.undo (x.2.tr.length : Int)) t (hok4.small' (Nat.le_of_ble_eq_true rfl)) hok4.ends (by omega)) rfl rfl rfl (Nat.le_of_ble_eq_true rfl) rfl (AV.bds_of_B _ rfl)) rfl rfl ?_
            refine RO.opv (opv_move rfl) rfl ?_
            refine RO.opv (v' := .d (enc _)) (opv_extract rfl rfl) rfl ?_
            refine RO.opv (v' := .d (.int _ _)) (opv_extract rfl rfl) rfl ?_
            refine RO.opn (v' := .ref 6 0) (O' := [_, _, _, _, _, _, _]) (opv_alloc) rfl rfl ?_
            refine RO.op0n (O' := [_, _, _, _, _, _, _]) (opv_store_term rfl rfl rfl (Nat.le_of_ble_eq_true rfl)) rfl ?_
            refine RO.opv (v' := .d (.int _ _)) (opv_assign rfl) rfl ?_
            refine RO.nil ?_
            refine Runs.has [(6, .d (.bool false)), (7, .d (.bool true)), (8, .ref 3 0), (10, .d (.int _ _)), (11, .ref 4 0), (12, .d (.int _ _)), (13, .d (.list (encs _))), (16, .ref 6 0), (17, .d (.int _ _))] ⟨rfl, rfl, rfl, rfl, rfl, rfl, rfl, rfl, rfl, trivial⟩ ?_
            refine Runs.seq ?_
            refine Runs.rseq ?_
            refine RO.opv (v' := .d (.int _ _)) (opv_assign rfl) rfl ?_
            refine RO.nil ?_
            refine Runs.block ?_
            refine Runs.loopC (X := Nat) (fun z => z ≤ 12) (fun z => 12 - z) [(7, .d (.bool true)), (8, .ref 3 0), (10, .d (.int _ _)), (11, .ref 4 0), (12, .d (.int _ _)), (13, .d (.list (encs _))), (16, .ref 6 0), (17, .d (.int _ _))] (fun z => [(18, .d (.int .i64 (z : Nat)))]) [_, _, _, _, _, _, _] (fun z => []) (0) ⟨rfl, rfl, rfl, rfl, rfl, rfl, rfl, rfl, trivial⟩ ⟨rfl, trivial⟩ rfl (by omega) fun z hz => ?_
            refine Runs.seq ?_
            refine Runs.rseq ?_
            refine RO.opv (v' := .d (.int _ _)) (opv_move rfl) rfl ?_
            refine RO.opc (opv_bin rfl rfl rfl) (fun h13 => ?_) (fun h13 => ?_)
            · try simp only [decide_eq_true_eq, decide_eq_false_iff_not, beq_iff_eq, beq_eq_false_iff_ne, bne_iff_ne, bne_eq_false_iff_eq, Int.not_lt, Int.not_le, ne_eq, Bool.not_eq_true', Bool.not_eq_false', gt_iff_lt, ge_iff_le] at h13
              have hk4 : z < 12 := by omega
              refine RO.nil ?_
              refine Runs.condT rfl ?_
              refine Runs.skip ?_
              refine thenQ_normal ?_
              refine Runs.has [(7, .d (.bool true)), (8, .ref 3 0), (10, .d (.int _ _)), (11, .ref 4 0), (12, .d (.int _ _)), (13, .d (.list (encs _))), (16, .ref 6 0), (17, .d (.int _ _)), (18, .d (.int _ _))] ⟨rfl, rfl, rfl, rfl, rfl, rfl, rfl, rfl, rfl, trivial⟩ ?_
              refine Runs.seq ?_
              refine Runs.block ?_
              refine Runs.seq ?_
              refine Runs.drawn (by kernel_rfl) [] [false, false, false, false, false, false, false, false, false, false] [false, false, false, false, false, false, false, false, false, false] (by decide +kernel) ?_
              refine RD.opv (v' := .ref 3 0) (opv_move rfl) rfl ?_
              refine RD.opv (v' := .d (.int _ _)) (opv_move rfl) rfl ?_
              refine RD.opv (v' := .d (enc _)) (opv_callF (let_fn (z : Int)) rfl rfl rfl trivial) rfl ?_
              refine RD.opq (v' := .d (enc _)) (opv_callS 1 3 (wk_fn (y.2.undo (x.2.tr.length : Int)) (lets (z : Int)) (hok4.ends _)) rfl rfl rfl (Nat.le_of_ble_eq_true rfl) rfl (AV.bds_of_B _ rfl)) rfl rfl ?_
              refine RD.opv (v' := .d (.list (encs _))) (opv_move rfl) rfl ?_
              refine RD.opv (v' := .d (.int _ _)) (opv_move rfl) rfl ?_
              refine RD.opv (v' := .d (.ptr _)) (opv_index_terms rfl rfl (by simp; omega)) rfl ?_
              refine RD.opv (v' := .d (enc _)) (opv_load_pterm rfl) rfl ?_
              refine RD.opv (v' := .d (.bool _)) (opv_callF (same_fn ((y.2.undo (x.2.tr.length : Int)).wk (lets (z : Int))) (((List.range 12).map fun (j : Nat) => x.2.wk (lets (j : Int)))[z]'(by simp; omega)) (by rw [hw4]; have := hwb z; omega) (by simp only [List.getElem_map]; have := hwb (((List.range 12)[z]'(by simp; omega) : Nat) : Int); omega)) rfl rfl rfl trivial) rfl ?_
              refine RD.opc (opv_not rfl rfl) (fun h14 => ?_) (fun h14 => ?_)
              · try simp only [decide_eq_true_eq, decide_eq_false_iff_not, beq_iff_eq, beq_eq_false_iff_ne, bne_iff_ne, bne_eq_false_iff_eq, Int.not_lt, Int.not_le, ne_eq, Bool.not_eq_true', Bool.not_eq_false', gt_iff_lt, ge_iff_le] at h14
                rw [hw4] at h14; simp [same_refl] at h14
              · try simp only [decide_eq_true_eq, decide_eq_false_iff_not, beq_iff_eq, beq_eq_false_iff_ne, bne_iff_ne, bne_eq_false_iff_eq, Int.not_lt, Int.not_le, ne_eq, Bool.not_eq_true', Bool.not_eq_false', gt_iff_lt, ge_iff_le] at h14
                refine RD.nil ?_
                refine thenQ_normal ?_
                refine Runs.condF rfl ?_
                refine Runs.skip ?_
                refine blockQ_normal ?_
                refine thenQ_normal ?_
                refine Runs.has [(7, .d (.bool true)), (8, .ref 3 0), (10, .d (.int _ _)), (11, .ref 4 0), (12, .d (.int _ _)), (13, .d (.list (encs _))), (16, .ref 6 0), (17, .d (.int _ _)), (18, .d (.int _ _))] ⟨rfl, rfl, rfl, rfl, rfl, rfl, rfl, rfl, rfl, trivial⟩ ?_
                refine Runs.region ?_
                refine RO.opv (v' := .d (.int _ _)) (opv_move rfl) rfl ?_
                refine RO.opv (v' := .d (.int _ _)) (opv_arith rfl rfl (binD_add (r := ((z + 1 : Nat) : Int)) (by refine (wrap64 ?_ ?_).trans ?_ <;> omega))) rfl ?_
                refine RO.opv (v' := .d (.int _ _)) (opv_assign rfl) rfl ?_
                refine RO.nil ?_
                refine thenQ_normal ?_
                refine ⟨z + 1, 7, (by rw [hK]; exact Nat.le_of_ble_eq_true rfl), ⟨rfl, rfl, rfl, rfl, rfl, rfl, rfl, rfl, trivial⟩, ⟨?_, trivial⟩, rfl, ?_, ?_⟩
                · rfl
                · omega
                · omega
            · try simp only [decide_eq_true_eq, decide_eq_false_iff_not, beq_iff_eq, beq_eq_false_iff_ne, bne_iff_ne, bne_eq_false_iff_eq, Int.not_lt, Int.not_le, ne_eq, Bool.not_eq_true', Bool.not_eq_false', gt_iff_lt, ge_iff_le] at h13
              skip
              refine RO.nil ?_
              refine Runs.condF rfl ?_
              refine Runs.exit ?_
              refine thenQ_exit ?_
              refine thenQ_exit ?_
              refine blockQ_here ?_
              refine thenQ_normal ?_
              refine Runs.has [(7, .d (.bool true)), (8, .ref 3 0), (10, .d (.int _ _)), (11, .ref 4 0), (12, .d (.int _ _)), (16, .ref 6 0), (17, .d (.int _ _))] ⟨rfl, rfl, rfl, rfl, rfl, rfl, rfl, trivial⟩ ?_
              refine Runs.rseq ?_
              refine RO.opv (v' := .d (.bool true)) (opv_move rfl) rfl ?_
              refine RO.opv (v' := .d (.bool true)) (opv_move rfl) rfl ?_
              refine RO.opgv (v' := .ref 3 0) rfl (opv_move rfl) rfl ?_
              refine RO.opgn (v' := .d (.int _ _)) (O' := [_, _, _, _, _, _, _]) rfl (opv_callS 1 3 (mark_fn (y.2.undo (x.2.tr.length : Int))) rfl rfl rfl (Nat.le_of_ble_eq_true rfl) rfl (AV.bds_of_B _ rfl)) rfl rfl ?_
              refine RO.opgv (v' := .d (.int _ _)) rfl (opv_move rfl) rfl ?_
              refine RO.opgv (v' := .d (.bool _)) rfl (opv_bin rfl rfl rfl) rfl ?_
              refine RO.opv (v' := .d (.bool _)) (opv_pick rfl rfl) rfl ?_
              refine RO.opc (opv_move rfl) (fun h15 => ?_) (fun h15 => ?_)
              · try simp only [decide_eq_true_eq, decide_eq_false_iff_not, beq_iff_eq, beq_eq_false_iff_ne, bne_iff_ne, bne_eq_false_iff_eq, Int.not_lt, Int.not_le, ne_eq, Bool.not_eq_true', Bool.not_eq_false', gt_iff_lt, ge_iff_le] at h15
                refine RO.opgv (v' := .d (.int _ _)) rfl (opv_move rfl) rfl ?_
                refine RO.opgv (v' := .d (.int _ _)) rfl (opv_move rfl) rfl ?_
                refine RO.opgv (v' := .d (.bool _)) rfl (opv_bin rfl rfl rfl) rfl ?_
                refine RO.opv (v' := .d (.bool _)) (opv_pick rfl rfl) rfl ?_
                refine RO.opc (opv_move rfl) (fun h16 => ?_) (fun h16 => ?_)
                · try simp only [decide_eq_true_eq, decide_eq_false_iff_not, beq_iff_eq, beq_eq_false_iff_ne, bne_iff_ne, bne_eq_false_iff_eq, Int.not_lt, Int.not_le, ne_eq, Bool.not_eq_true', Bool.not_eq_false', gt_iff_lt, ge_iff_le] at h16
                  refine RO.opgv (v' := .d (enc _)) rfl (opv_load_term rfl rfl rfl) rfl ?_
                  refine RO.opgv (v' := .d (enc _)) rfl (opv_load_term rfl rfl rfl) rfl ?_
                  refine RO.opgv (v' := .d (.bool _)) rfl (opv_callF (same_fn (x.2.full t).1 ((y.2.undo (x.2.tr.length : Int)).full t).1 hfb (by rw [hf4]; exact hfb)) rfl rfl rfl trivial) rfl ?_
                  refine RO.opv (v' := .d (.bool _)) (opv_pick rfl rfl) rfl ?_
                  refine RO.opv (v' := .d (.bool _)) (opv_assign rfl) rfl ?_
                  refine RO.nil ?_
                  refine Runs.ret ?_
                  refine EndQ.tmp (.inr rfl) rfl rfl 0 (by exact Nat.le_refl _) (by exact Nat.zero_le _) trivial ⟨?_, rfl⟩
                  refine bool_eq ?_; rw [hf4, same_refl]
                · try simp only [decide_eq_true_eq, decide_eq_false_iff_not, beq_iff_eq, beq_eq_false_iff_ne, bne_iff_ne, bne_eq_false_iff_eq, Int.not_lt, Int.not_le, ne_eq, Bool.not_eq_true', Bool.not_eq_false', gt_iff_lt, ge_iff_le] at h16
                  exact absurd (by rw [hf4]) h16
              · try simp only [decide_eq_true_eq, decide_eq_false_iff_not, beq_iff_eq, beq_eq_false_iff_ne, bne_iff_ne, bne_eq_false_iff_eq, Int.not_lt, Int.not_le, ne_eq, Bool.not_eq_true', Bool.not_eq_false', gt_iff_lt, ge_iff_le] at h15
                exact absurd (by rw [hun.2]) h15
    · try simp only [decide_eq_true_eq, decide_eq_false_iff_not, beq_iff_eq, beq_eq_false_iff_ne, bne_iff_ne, bne_eq_false_iff_eq, Int.not_lt, Int.not_le, ne_eq, Bool.not_eq_true', Bool.not_eq_false', gt_iff_lt, ge_iff_le] at h2
      skip
      refine RO.off rfl ?_
      refine RO.off rfl ?_
      refine RO.opv (v' := .d (.bool false)) (opv_pick rfl rfl) rfl ?_
      refine RO.nil ?_
      refine Runs.condF rfl ?_
      refine Runs.exit ?_
      refine thenQ_exit ?_
      refine thenQ_exit ?_
      refine blockQ_here ?_
      refine thenQ_normal ?_
      refine Runs.has [(1, .d (.list _)), (5, .ref 0 0), (6, .d (.bool false)), (7, .d (.bool true)), (8, .ref 3 0)] ⟨rfl, rfl, rfl, rfl, rfl, trivial⟩ ?_
      have hok1 := hi.2.2
      have hfb := full_bulk (t := t) hok1.small (by omega)
      have hwb : ∀ v : Int, (x.2.wk (lets v)).bulk ≤ 2 ^ 20 := fun v => wk_bulk hok1.small _ (hlb v)
      refine Runs.rseq ?_
      refine RO.opv (v' := .ref 3 0) (opv_move rfl) rfl ?_
      refine RO.opn (v' := .d (.int _ _)) (O' := [_, _, _, _]) (opv_callS 1 3 (mark_fn x.2) rfl rfl rfl (Nat.le_of_ble_eq_true rfl) rfl (AV.bds_of_B _ rfl)) rfl rfl ?_
      refine RO.opv (v' := .d (.int _ _)) (opv_assign rfl) rfl ?_
      refine RO.nil ?_
      refine Runs.has [(1, .d (.list _)), (5, .ref 0 0), (6, .d (.bool false)), (7, .d (.bool true)), (8, .ref 3 0), (10, .d (.int _ _))] ⟨rfl, rfl, rfl, rfl, rfl, rfl, trivial⟩ ?_
      refine Runs.rseq ?_
      refine RO.opv (v' := .ref 3 0) (opv_move rfl) rfl ?_
      refine RO.opv (v' := .d (enc _)) (opv_load_term rfl rfl rfl) rfl ?_
      refine RO.opn (O' := [_, _, _, _]) (opv_callS 1 3 (full_fn x.2 t (hok1.small' (Nat.le_of_ble_eq_true rfl)) hok1.ends (by omega)) rfl rfl rfl (Nat.le_of_ble_eq_true rfl) rfl (AV.bds_of_B _ rfl)) rfl rfl ?_
      refine RO.opv (opv_move rfl) rfl ?_
      refine RO.opv (v' := .d (enc _)) (opv_extract rfl rfl) rfl ?_
      refine RO.opv (v' := .d (.int _ _)) (opv_extract rfl rfl) rfl ?_
      refine RO.opn (v' := .ref 4 0) (O' := [_, _, _, _, _]) (opv_alloc) rfl rfl ?_
      refine RO.op0n (O' := [_, _, _, _, _]) (opv_store_term rfl rfl rfl (Nat.le_of_ble_eq_true rfl)) rfl ?_
      refine RO.opv (v' := .d (.int _ _)) (opv_assign rfl) rfl ?_
      refine RO.nil ?_
      refine Runs.has [(1, .d (.list _)), (5, .ref 0 0), (6, .d (.bool false)), (7, .d (.bool true)), (8, .ref 3 0), (10, .d (.int _ _)), (11, .ref 4 0), (12, .d (.int _ _))] ⟨rfl, rfl, rfl, rfl, rfl, rfl, rfl, rfl, trivial⟩ ?_
      refine Runs.rseq ?_
      refine RO.opv (v' := .nil0) (opv_assign rfl) rfl ?_
      refine RO.nil ?_
      refine Runs.seq ?_
      refine Runs.adopt 13 24 4 rfl ?_
      refine Runs.rseq ?_
      refine RO.opv (v' := .d (.int _ _)) (opv_assign rfl) rfl ?_
      refine RO.nil ?_
      refine Runs.block ?_
      refine Runs.loopC (X := Nat) (fun i => i ≤ 12) (fun i => 12 - i) [(1, .d (.list _)), (5, .ref 0 0), (6, .d (.bool false)), (7, .d (.bool true)), (8, .ref 3 0), (10, .d (.int _ _)), (11, .ref 4 0), (12, .d (.int _ _))] (fun i => [(13, .own 5 (1 + i)), (14, .d (.int .i64 (i : Nat)))]) [_, _, _, _, _] (fun i => [.buf 24 4 (encs ((List.range i).map fun (j : Nat) => x.2.wk (lets (j : Int)))) (1 + i)]) (0) ⟨rfl, rfl, rfl, rfl, rfl, rfl, rfl, rfl, trivial⟩ ⟨rfl, rfl, trivial⟩ rfl (by omega) fun i hi2 => ?_
      refine Runs.seq ?_
      refine Runs.rseq ?_
      refine RO.opv (v' := .d (.int _ _)) (opv_move rfl) rfl ?_
      refine RO.opc (opv_bin rfl rfl rfl) (fun h17 => ?_) (fun h17 => ?_)
      · try simp only [decide_eq_true_eq, decide_eq_false_iff_not, beq_iff_eq, beq_eq_false_iff_ne, bne_iff_ne, bne_eq_false_iff_eq, Int.not_lt, Int.not_le, ne_eq, Bool.not_eq_true', Bool.not_eq_false', gt_iff_lt, ge_iff_le] at h17
        have hk3 : i < 12 := by omega
        refine RO.nil ?_
        refine Runs.condT rfl ?_
        refine Runs.skip ?_
        refine thenQ_normal ?_
        refine Runs.has [(1, .d (.list _)), (5, .ref 0 0), (6, .d (.bool false)), (7, .d (.bool true)), (8, .ref 3 0), (10, .d (.int _ _)), (11, .ref 4 0), (12, .d (.int _ _)), (13, .own 5 _), (14, .d (.int _ _))] ⟨rfl, rfl, rfl, rfl, rfl, rfl, rfl, rfl, rfl, rfl, trivial⟩ ?_
        refine Runs.seq ?_
        refine Runs.block ?_
        refine Runs.region ?_
        refine RO.opv (v' := .own 5 _) (opv_move rfl) rfl ?_
        refine RO.opv (v' := .ref 3 0) (opv_move rfl) rfl ?_
        refine RO.opv (v' := .d (.int _ _)) (opv_move rfl) rfl ?_
        refine RO.opv (v' := .d (enc _)) (opv_callF (let_fn (i : Int)) rfl rfl rfl trivial) rfl ?_
        refine RO.opn (v' := .d (enc _)) (O' := [_, _, _, _, _, _]) (opv_callS 1 3 (wk_fn x.2 (lets (i : Int)) (hok1.ends _)) rfl rfl rfl (Nat.le_of_ble_eq_true rfl) rfl (AV.bds_of_B _ rfl)) rfl rfl ?_
        refine RO.opv (v' := .d (.list (encs _))) (opv_bs_term1 rfl ) rfl ?_
        refine RO.opn (v' := .own 5 _) (O' := [_, _, _, _, _, _]) (opv_append_terms rfl rfl rfl (by simp; omega)) rfl rfl ?_
        refine RO.opv (v' := .own 5 _) (opv_assign rfl) rfl ?_
        refine RO.nil ?_
        refine blockQ_normal ?_
        refine thenQ_normal ?_
        refine Runs.has [(1, .d (.list _)), (5, .ref 0 0), (6, .d (.bool false)), (7, .d (.bool true)), (8, .ref 3 0), (10, .d (.int _ _)), (11, .ref 4 0), (12, .d (.int _ _)), (13, .own 5 _), (14, .d (.int _ _))] ⟨rfl, rfl, rfl, rfl, rfl, rfl, rfl, rfl, rfl, rfl, trivial⟩ ?_
        refine Runs.region ?_
        refine RO.opv (v' := .d (.int _ _)) (opv_move rfl) rfl ?_
        refine RO.opv (v' := .d (.int _ _)) (opv_arith rfl rfl (binD_add (r := ((i + 1 : Nat) : Int)) (by refine (wrap64 ?_ ?_).trans ?_ <;> omega))) rfl ?_
        refine RO.opv (v' := .d (.int _ _)) (opv_assign rfl) rfl ?_
        refine RO.nil ?_
        refine thenQ_normal ?_
        refine ⟨i + 1, 6, (by rw [hK]; exact Nat.le_of_ble_eq_true rfl), ⟨rfl, rfl, rfl, rfl, rfl, rfl, rfl, rfl, trivial⟩, ⟨?_, ?_, trivial⟩, ?_, ?_, ?_⟩
        · rfl
        · rfl
        · rw [List.range_succ, List.map_append]; rfl
        · omega
        · omega
      · try simp only [decide_eq_true_eq, decide_eq_false_iff_not, beq_iff_eq, beq_eq_false_iff_ne, bne_iff_ne, bne_eq_false_iff_eq, Int.not_lt, Int.not_le, ne_eq, Bool.not_eq_true', Bool.not_eq_false', gt_iff_lt, ge_iff_le] at h17
        obtain rfl : i = 12 := by omega
        refine RO.nil ?_
        refine Runs.condF rfl ?_
        refine Runs.exit ?_
        refine thenQ_exit ?_
        refine thenQ_exit ?_
        refine blockQ_here ?_
        refine thenQ_normal ?_
        refine Runs.has [(1, .d (.list _)), (5, .ref 0 0), (6, .d (.bool false)), (7, .d (.bool true)), (8, .ref 3 0), (10, .d (.int _ _)), (11, .ref 4 0), (12, .d (.int _ _)), (13, .own 5 _)] ⟨rfl, rfl, rfl, rfl, rfl, rfl, rfl, rfl, rfl, trivial⟩ ?_
        refine Runs.seq ?_
        refine Runs.shut 13 rfl rfl ?_
        refine Runs.rseq ?_
        refine RO.opv (v' := .d (.int _ _)) (opv_assign rfl) rfl ?_
        refine RO.nil ?_
        refine Runs.block ?_
        refine Runs.loopC (X := (Nat × St)) (fun y => y.1 ≤ m.length ∧ y.1 ≤ 30 ∧ y.2.Ok (2 ^ 20) ∧ Later x.2 y.2) (fun y => m.length - y.1) [(1, .d (.list _)), (5, .ref 0 0), (6, .d (.bool false)), (7, .d (.bool true)), (8, .ref 3 0), (10, .d (.int _ _)), (11, .ref 4 0), (12, .d (.int _ _)), (13, .d (.list (encs _)))] (fun y => [(15, .d (.int .i64 (y.1 : Nat)))]) [_] (fun y => [.buf 62 5 (encCells (y.2).cs) (y.2).v1, .buf 3 1 (ints (y.2).tr) (y.2).v2, .cells [.own 1 (y.2).v1, .own 2 (y.2).v2], .cells (cellsT (x.2.full t).1), .dead]) (((0 : Nat), x.2)) ⟨rfl, rfl, rfl, rfl, rfl, rfl, rfl, rfl, rfl, trivial⟩ ⟨rfl, trivial⟩ rfl ⟨Nat.zero_le _, Nat.zero_le _, hok1, Later.refl _⟩ fun y hj => ?_
        refine Runs.seq ?_
        refine Runs.rseq ?_
        refine RO.opv (v' := .d (.int _ _)) (opv_move rfl) rfl ?_
        refine RO.opv (v' := .d (.list _)) (opv_move rfl) rfl ?_
        refine RO.opv (v' := .d (.int _ _)) (opv_len rfl rfl rfl) rfl ?_
        refine RO.opv (v' := .d (.bool _)) (opv_bin rfl rfl rfl) rfl ?_
        refine RO.opc (opv_move rfl) (fun h18 => ?_) (fun h18 => ?_)
        · try simp only [decide_eq_true_eq, decide_eq_false_iff_not, beq_iff_eq, beq_eq_false_iff_ne, bne_iff_ne, bne_eq_false_iff_eq, Int.not_lt, Int.not_le, ne_eq, Bool.not_eq_true', Bool.not_eq_false', gt_iff_lt, ge_iff_le] at h18
          have hk2 : y.1 < m.length := by omega
          refine RO.opgv (v' := .d (.int _ _)) rfl (opv_move rfl) rfl ?_
          refine RO.opgv (v' := .d (.bool _)) rfl (opv_bin rfl rfl rfl) rfl ?_
          refine RO.opc (opv_pick rfl rfl) (fun h19 => ?_) (fun h19 => ?_)
          · try simp only [decide_eq_true_eq, decide_eq_false_iff_not, beq_iff_eq, beq_eq_false_iff_ne, bne_iff_ne, bne_eq_false_iff_eq, Int.not_lt, Int.not_le, ne_eq, Bool.not_eq_true', Bool.not_eq_false', gt_iff_lt, ge_iff_le] at h19
            refine RO.nil ?_
            refine Runs.condT rfl ?_
            refine Runs.skip ?_
            refine thenQ_normal ?_
            refine Runs.has [(1, .d (.list _)), (5, .ref 0 0), (6, .d (.bool false)), (7, .d (.bool true)), (8, .ref 3 0), (10, .d (.int _ _)), (11, .ref 4 0), (12, .d (.int _ _)), (13, .d (.list (encs _))), (15, .d (.int _ _))] ⟨rfl, rfl, rfl, rfl, rfl, rfl, rfl, rfl, rfl, rfl, trivial⟩ ?_
            refine Runs.seq ?_
            refine Runs.block ?_
            refine Runs.rseq ?_
            refine RO.opv (v' := .d (.list _)) (opv_move rfl) rfl ?_
            refine RO.opv (v' := .d (.int _ _)) (opv_move rfl) rfl ?_
            refine RO.opv (v' := .d (.ptr _)) (opv_index_list (y := encDeed (m[y.1]'hk2)) rfl rfl (Int.natCast_nonneg _) (by simp [hk2]) rfl) rfl ?_
            refine RO.opv (v' := .d (.ptr _)) (opv_field_ptr rfl) rfl ?_
            refine RO.opv (v' := .d (enc _)) (opv_load_pterm (u := (m[y.1]'hk2).t) rfl) rfl ?_
            refine RO.opc (opv_callF (few_fn (m[y.1]'hk2).t (by have := g2 _ (List.getElem_mem hk2); omega)) rfl rfl rfl trivial) (fun h20 => ?_) (fun h20 => ?_)
            · try simp only [decide_eq_true_eq, decide_eq_false_iff_not, beq_iff_eq, beq_eq_false_iff_ne, bne_iff_ne, bne_eq_false_iff_eq, Int.not_lt, Int.not_le, ne_eq, Bool.not_eq_true', Bool.not_eq_false', gt_iff_lt, ge_iff_le] at h20
              refine RO.nil ?_
              refine Runs.condT rfl ?_
              refine Runs.has [(1, .d (.list _)), (5, .ref 0 0), (6, .d (.bool false)), (7, .d (.bool true)), (8, .ref 3 0), (10, .d (.int _ _)), (11, .ref 4 0), (12, .d (.int _ _)), (13, .d (.list (encs _))), (15, .d (.int _ _))] ⟨rfl, rfl, rfl, rfl, rfl, rfl, rfl, rfl, rfl, rfl, trivial⟩ ?_
              refine Runs.drawn (by kernel_rfl) [] [false, false, false, false, false, false, false, false, false, false, false, false] [false, false, false, false, false, false, false, false, false, false, false, true] (by decide +kernel) ?_
              refine RD.opv (v' := .ref 3 0) (opv_move rfl) rfl ?_
              refine RD.opv (v' := .d (.list _)) (opv_move rfl) rfl ?_
              refine RD.opv (v' := .d (.int _ _)) (opv_move rfl) rfl ?_
              refine RD.opv (v' := .d (.ptr _)) (opv_index_list (y := encDeed (m[y.1]'hk2)) rfl rfl (Int.natCast_nonneg _) (by simp [hk2]) rfl) rfl ?_
              refine RD.opv (v' := .d (.ptr _)) (opv_field_ptr rfl) rfl ?_
              refine RD.opv (v' := .d (.int _ _)) (opv_load_ptr rfl rfl) rfl ?_
              refine RD.opv (v' := .d (.list _)) (opv_move rfl) rfl ?_
              refine RD.opv (v' := .d (.int _ _)) (opv_move rfl) rfl ?_
              refine RD.opv (v' := .d (.ptr _)) (opv_index_list (y := encDeed (m[y.1]'hk2)) rfl rfl (Int.natCast_nonneg _) (by simp [hk2]) rfl) rfl ?_
              refine RD.opv (v' := .d (.ptr _)) (opv_field_ptr rfl) rfl ?_
              refine RD.opv (v' := .d (enc _)) (opv_load_pterm (u := (m[y.1]'hk2).t) rfl) rfl ?_
              refine RD.opn (v' := .d (.int _ _)) (O' := [_, _, _, _, _, _]) (opv_callS 1 3 (bind_fn y.2 (m[y.1]'hk2).n (m[y.1]'hk2).t (hj.2.2.1.small' (Nat.le_of_ble_eq_true rfl)) (by have := g2 _ (List.getElem_mem hk2); omega) (Nat.le_trans hj.2.2.1.len (Nat.le_of_ble_eq_true rfl)) (Nat.lt_of_le_of_lt hj.2.2.1.trl (Nat.lt_of_sub_pos (by decide)))) rfl rfl rfl (Nat.le_of_ble_eq_true rfl) rfl (AV.bds_of_B _ rfl)) rfl rfl trivial ?_
              refine RD.nil ?_
              refine blockQ_normal ?_
              refine thenQ_normal ?_
              refine Runs.has [(1, .d (.list _)), (5, .ref 0 0), (6, .d (.bool false)), (7, .d (.bool true)), (8, .ref 3 0), (10, .d (.int _ _)), (11, .ref 4 0), (12, .d (.int _ _)), (13, .d (.list (encs _))), (15, .d (.int _ _))] ⟨rfl, rfl, rfl, rfl, rfl, rfl, rfl, rfl, rfl, rfl, trivial⟩ ?_
              refine Runs.region ?_
              refine RO.opv (v' := .d (.int _ _)) (opv_move rfl) rfl ?_
              refine RO.opv (v' := .d (.int _ _)) (opv_arith rfl rfl (binD_add (r := ((y.1 + 1 : Nat) : Int)) (by refine (wrap64 ?_ ?_).trans ?_ <;> omega))) rfl ?_
              refine RO.opv (v' := .d (.int _ _)) (opv_assign rfl) rfl ?_
              refine RO.nil ?_
              refine thenQ_normal ?_
              refine ⟨(y.1 + 1, (y.2.bind (m[y.1]'hk2).n (m[y.1]'hk2).t).1), 6, (by rw [hK]; exact Nat.le_of_ble_eq_true rfl), ⟨rfl, rfl, rfl, rfl, rfl, rfl, rfl, rfl, rfl, trivial⟩, ⟨?_, trivial⟩, rfl, ?_, ?_⟩
              · rfl
              · exact ⟨hk2, by show y.1 + 1 ≤ 30; omega, hj.2.2.1.bind _ _ (g2 _ (List.getElem_mem hk2)), hj.2.2.2.bind hj.2.2.1 _ _⟩
              · show m.length - (y.1 + 1) < _; omega
            · try simp only [decide_eq_true_eq, decide_eq_false_iff_not, beq_iff_eq, beq_eq_false_iff_ne, bne_iff_ne, bne_eq_false_iff_eq, Int.not_lt, Int.not_le, ne_eq, Bool.not_eq_true', Bool.not_eq_false', gt_iff_lt, ge_iff_le] at h20
              refine RO.nil ?_
              refine Runs.condF rfl ?_
              refine Runs.skip ?_
              refine blockQ_normal ?_
              refine thenQ_normal ?_
              refine Runs.has [(1, .d (.list _)), (5, .ref 0 0), (6, .d (.bool false)), (7, .d (.bool true)), (8, .ref 3 0), (10, .d (.int _ _)), (11, .ref 4 0), (12, .d (.int _ _)), (13, .d (.list (encs _))), (15, .d (.int _ _))] ⟨rfl, rfl, rfl, rfl, rfl, rfl, rfl, rfl, rfl, rfl, trivial⟩ ?_
              refine Runs.region ?_
              refine RO.opv (v' := .d (.int _ _)) (opv_move rfl) rfl ?_
              refine RO.opv (v' := .d (.int _ _)) (opv_arith rfl rfl (binD_add (r := ((y.1 + 1 : Nat) : Int)) (by refine (wrap64 ?_ ?_).trans ?_ <;> omega))) rfl ?_
              refine RO.opv (v' := .d (.int _ _)) (opv_assign rfl) rfl ?_
              refine RO.nil ?_
              refine thenQ_normal ?_
              refine ⟨(y.1 + 1, y.2), 6, (by rw [hK]; exact Nat.le_of_ble_eq_true rfl), ⟨rfl, rfl, rfl, rfl, rfl, rfl, rfl, rfl, rfl, trivial⟩, ⟨?_, trivial⟩, rfl, ?_, ?_⟩
              · rfl
              · exact ⟨hk2, by show y.1 + 1 ≤ 30; omega, hj.2.2⟩
              · show m.length - (y.1 + 1) < _; omega
          · try simp only [decide_eq_true_eq, decide_eq_false_iff_not, beq_iff_eq, beq_eq_false_iff_ne, bne_iff_ne, bne_eq_false_iff_eq, Int.not_lt, Int.not_le, ne_eq, Bool.not_eq_true', Bool.not_eq_false', gt_iff_lt, ge_iff_le] at h19
            refine RO.nil ?_
            refine Runs.condF rfl ?_
            refine Runs.exit ?_
            refine thenQ_exit ?_
            refine thenQ_exit ?_
            refine blockQ_here ?_
            refine thenQ_normal ?_
            refine Runs.has [(5, .ref 0 0), (6, .d (.bool false)), (7, .d (.bool true)), (8, .ref 3 0), (10, .d (.int _ _)), (11, .ref 4 0), (12, .d (.int _ _)), (13, .d (.list (encs _)))] ⟨rfl, rfl, rfl, rfl, rfl, rfl, rfl, rfl, trivial⟩ ?_
            obtain ⟨_, _, hok3, hla⟩ := hj
            have hun := hla.undo
            have hok4 : (y.2.undo (x.2.tr.length : Int)).Ok (2 ^ 20) := hok1.congr hun.1.symm hun.2.symm
            have hf4 : ((y.2.undo (x.2.tr.length : Int)).full t) = (x.2.full t) := full_cs hun.1 t
            have hw4 : (y.2.undo (x.2.tr.length : Int)).wk = x.2.wk := wk_cs hun.1
            refine Runs.rseq ?_
            refine RO.opv (v' := .ref 3 0) (opv_move rfl) rfl ?_
            refine RO.opv (v' := .d (.int _ _)) (opv_move rfl) rfl ?_
            refine RO.opn (O' := [_, _, _, _, _, _]) (opv_callS 1 3 (undo_fn y.2 (x.2.tr.length : Int) (Nat.le_trans hok3.trl (Nat.le_of_ble_eq_true rfl)) hok3.inb) rfl rfl rfl (Nat.le_of_ble_eq_true rfl) rfl (AV.bds_of_B _ rfl)) rfl rfl ?_
            refine RO.nil ?_
            refine Runs.has [(5, .ref 0 0), (6, .d (.bool false)), (7, .d (.bool true)), (8, .ref 3 0), (10, .d (.int _ _)), (11, .ref 4 0), (12, .d (.int _ _)), (13, .d (.list (encs _)))] ⟨rfl, rfl, rfl, rfl, rfl, rfl, rfl, rfl, trivial⟩ ?_
            refine Runs.rseq ?_
            refine RO.opv (v' := .ref 3 0) (opv_move rfl) rfl ?_
            refine RO.opv (v' := .d (enc _)) (opv_load_term rfl rfl rfl) rfl ?_
            refine RO.opn (O' := [_, _, _, _, _, _]) (opv_callS 1 3 (full_fn (y.2.undo (x.2.tr.length : Int)) t (hok4.small' (Nat.le_of_ble_eq_true rfl)) hok4.ends (by omega)) rfl rfl rfl (Nat.le_of_ble_eq_true rfl) rfl (AV.bds_of_B _ rfl)) rfl rfl ?_
            refine RO.opv (opv_move rfl) rfl ?_
            refine RO.opv (v' := .d (enc _)) (opv_extract rfl rfl) rfl ?_
            refine RO.opv (v' := .d (.int _ _)) (opv_extract rfl rfl) rfl ?_
            refine RO.opn (v' := .ref 6 0) (O' := [_, _, _, _, _, _, _]) (opv_alloc) rfl rfl ?_
            refine RO.op0n (O' := [_, _, _, _, _, _, _]) (opv_store_term rfl rfl rfl (Nat.le_of_ble_eq_true rfl)) rfl ?_
            refine RO.opv (v' := .d (.int _ _)) (opv_assign rfl) rfl ?_
            refine RO.nil ?_
            refine Runs.has [(6, .d (.bool false)), (7, .d (.bool true)), (8, .ref 3 0), (10, .d (.int _ _)), (11, .ref 4 0), (12, .d (.int _ _)), (13, .d (.list (encs _))), (16, .ref 6 0), (17, .d (.int _ _))] ⟨rfl, rfl, rfl, rfl, rfl, rfl, rfl, rfl, rfl, trivial⟩ ?_
            refine Runs.seq ?_
            refine Runs.rseq ?_
            refine RO.opv (v' := .d (.int _ _)) (opv_assign rfl) rfl ?_
            refine RO.nil ?_
            refine Runs.block ?_
            refine Runs.loopC (X := Nat) (fun z => z ≤ 12) (fun z => 12 - z) [(7, .d (.bool true)), (8, .ref 3 0), (10, .d (.int _ _)), (11, .ref 4 0), (12, .d (.int _ _)), (13, .d (.list (encs _))), (16, .ref 6 0), (17, .d (.int _ _))] (fun z => [(18, .d (.int .i64 (z : Nat)))]) [_, _, _, _, _, _, _] (fun z => []) (0) ⟨rfl, rfl, rfl, rfl, rfl, rfl, rfl, rfl, trivial⟩ ⟨rfl, trivial⟩ rfl (by omega) fun z hz => ?_
            refine Runs.seq ?_
            refine Runs.rseq ?_
            refine RO.opv (v' := .d (.int _ _)) (opv_move rfl) rfl ?_
            refine RO.opc (opv_bin rfl rfl rfl) (fun h21 => ?_) (fun h21 => ?_)
            · try simp only [decide_eq_true_eq, decide_eq_false_iff_not, beq_iff_eq, beq_eq_false_iff_ne, bne_iff_ne, bne_eq_false_iff_eq, Int.not_lt, Int.not_le, ne_eq, Bool.not_eq_true', Bool.not_eq_false', gt_iff_lt, ge_iff_le] at h21
              have hk4 : z < 12 := by omega
              refine RO.nil ?_
              refine Runs.condT rfl ?_
              refine Runs.skip ?_
              refine thenQ_normal ?_
              refine Runs.has [(7, .d (.bool true)), (8, .ref 3 0), (10, .d (.int _ _)), (11, .ref 4 0), (12, .d (.int _ _)), (13, .d (.list (encs _))), (16, .ref 6 0), (17, .d (.int _ _)), (18, .d (.int _ _))] ⟨rfl, rfl, rfl, rfl, rfl, rfl, rfl, rfl, rfl, trivial⟩ ?_
              refine Runs.seq ?_
              refine Runs.block ?_
              refine Runs.seq ?_
              refine Runs.drawn (by kernel_rfl) [] [false, false, false, false, false, false, false, false, false, false] [false, false, false, false, false, false, false, false, false, false] (by decide +kernel) ?_
              refine RD.opv (v' := .ref 3 0) (opv_move rfl) rfl ?_
              refine RD.opv (v' := .d (.int _ _)) (opv_move rfl) rfl ?_
              refine RD.opv (v' := .d (enc _)) (opv_callF (let_fn (z : Int)) rfl rfl rfl trivial) rfl ?_
              refine RD.opq (v' := .d (enc _)) (opv_callS 1 3 (wk_fn (y.2.undo (x.2.tr.length : Int)) (lets (z : Int)) (hok4.ends _)) rfl rfl rfl (Nat.le_of_ble_eq_true rfl) rfl (AV.bds_of_B _ rfl)) rfl rfl ?_
              refine RD.opv (v' := .d (.list (encs _))) (opv_move rfl) rfl ?_
              refine RD.opv (v' := .d (.int _ _)) (opv_move rfl) rfl ?_
              refine RD.opv (v' := .d (.ptr _)) (opv_index_terms rfl rfl (by simp; omega)) rfl ?_
              refine RD.opv (v' := .d (enc _)) (opv_load_pterm rfl) rfl ?_
              refine RD.opv (v' := .d (.bool _)) (opv_callF (same_fn ((y.2.undo (x.2.tr.length : Int)).wk (lets (z : Int))) (((List.range 12).map fun (j : Nat) => x.2.wk (lets (j : Int)))[z]'(by simp; omega)) (by rw [hw4]; have := hwb z; omega) (by simp only [List.getElem_map]; have := hwb (((List.range 12)[z]'(by simp; omega) : Nat) : Int); omega)) rfl rfl rfl trivial) rfl ?_
              refine RD.opc (opv_not rfl rfl) (fun h22 => ?_) (fun h22 => ?_)
              · try simp only [decide_eq_true_eq, decide_eq_false_iff_not, beq_iff_eq, beq_eq_false_iff_ne, bne_iff_ne, bne_eq_false_iff_eq, Int.not_lt, Int.not_le, ne_eq, Bool.not_eq_true', Bool.not_eq_false', gt_iff_lt, ge_iff_le] at h22
                rw [hw4] at h22; simp [same_refl] at h22
              · try simp only [decide_eq_true_eq, decide_eq_false_iff_not, beq_iff_eq, beq_eq_false_iff_ne, bne_iff_ne, bne_eq_false_iff_eq, Int.not_lt, Int.not_le, ne_eq, Bool.not_eq_true', Bool.not_eq_false', gt_iff_lt, ge_iff_le] at h22
                refine RD.nil ?_
                refine thenQ_normal ?_
                refine Runs.condF rfl ?_
                refine Runs.skip ?_
                refine blockQ_normal ?_
                refine thenQ_normal ?_
                refine Runs.has [(7, .d (.bool true)), (8, .ref 3 0), (10, .d (.int _ _)), (11, .ref 4 0), (12, .d (.int _ _)), (13, .d (.list (encs _))), (16, .ref 6 0), (17, .d (.int _ _)), (18, .d (.int _ _))] ⟨rfl, rfl, rfl, rfl, rfl, rfl, rfl, rfl, rfl, trivial⟩ ?_
                refine Runs.region ?_
                refine RO.opv (v' := .d (.int _ _)) (opv_move rfl) rfl ?_
                refine RO.opv (v' := .d (.int _ _)) (opv_arith rfl rfl (binD_add (r := ((z + 1 : Nat) : Int)) (by refine (wrap64 ?_ ?_).trans ?_ <;> omega))) rfl ?_
                refine RO.opv (v' := .d (.int _ _)) (opv_assign rfl) rfl ?_
                refine RO.nil ?_
                refine thenQ_normal ?_
                refine ⟨z + 1, 7, (by rw [hK]; exact Nat.le_of_ble_eq_true rfl), ⟨rfl, rfl, rfl, rfl, rfl, rfl, rfl, rfl, trivial⟩, ⟨?_, trivial⟩, rfl, ?_, ?_⟩
                · rfl
                · omega
                · omega
            · try simp only [decide_eq_true_eq, decide_eq_false_iff_not, beq_iff_eq, beq_eq_false_iff_ne, bne_iff_ne, bne_eq_false_iff_eq, Int.not_lt, Int.not_le, ne_eq, Bool.not_eq_true', Bool.not_eq_false', gt_iff_lt, ge_iff_le] at h21
              skip
              refine RO.nil ?_
              refine Runs.condF rfl ?_
              refine Runs.exit ?_
              refine thenQ_exit ?_
              refine thenQ_exit ?_
              refine blockQ_here ?_
              refine thenQ_normal ?_
              refine Runs.has [(7, .d (.bool true)), (8, .ref 3 0), (10, .d (.int _ _)), (11, .ref 4 0), (12, .d (.int _ _)), (16, .ref 6 0), (17, .d (.int _ _))] ⟨rfl, rfl, rfl, rfl, rfl, rfl, rfl, trivial⟩ ?_
              refine Runs.rseq ?_
              refine RO.opv (v' := .d (.bool true)) (opv_move rfl) rfl ?_
              refine RO.opv (v' := .d (.bool true)) (opv_move rfl) rfl ?_
              refine RO.opgv (v' := .ref 3 0) rfl (opv_move rfl) rfl ?_
              refine RO.opgn (v' := .d (.int _ _)) (O' := [_, _, _, _, _, _, _]) rfl (opv_callS 1 3 (mark_fn (y.2.undo (x.2.tr.length : Int))) rfl rfl rfl (Nat.le_of_ble_eq_true rfl) rfl (AV.bds_of_B _ rfl)) rfl rfl ?_
              refine RO.opgv (v' := .d (.int _ _)) rfl (opv_move rfl) rfl ?_
              refine RO.opgv (v' := .d (.bool _)) rfl (opv_bin rfl rfl rfl) rfl ?_
              refine RO.opv (v' := .d (.bool _)) (opv_pick rfl rfl) rfl ?_
              refine RO.opc (opv_move rfl) (fun h23 => ?_) (fun h23 => ?_)
              · try simp only [decide_eq_true_eq, decide_eq_false_iff_not, beq_iff_eq, beq_eq_false_iff_ne, bne_iff_ne, bne_eq_false_iff_eq, Int.not_lt, Int.not_le, ne_eq, Bool.not_eq_true', Bool.not_eq_false', gt_iff_lt, ge_iff_le] at h23
                refine RO.opgv (v' := .d (.int _ _)) rfl (opv_move rfl) rfl ?_
                refine RO.opgv (v' := .d (.int _ _)) rfl (opv_move rfl) rfl ?_
                refine RO.opgv (v' := .d (.bool _)) rfl (opv_bin rfl rfl rfl) rfl ?_
                refine RO.opv (v' := .d (.bool _)) (opv_pick rfl rfl) rfl ?_
                refine RO.opc (opv_move rfl) (fun h24 => ?_) (fun h24 => ?_)
                · try simp only [decide_eq_true_eq, decide_eq_false_iff_not, beq_iff_eq, beq_eq_false_iff_ne, bne_iff_ne, bne_eq_false_iff_eq, Int.not_lt, Int.not_le, ne_eq, Bool.not_eq_true', Bool.not_eq_false', gt_iff_lt, ge_iff_le] at h24
                  refine RO.opgv (v' := .d (enc _)) rfl (opv_load_term rfl rfl rfl) rfl ?_
                  refine RO.opgv (v' := .d (enc _)) rfl (opv_load_term rfl rfl rfl) rfl ?_
                  refine RO.opgv (v' := .d (.bool _)) rfl (opv_callF (same_fn (x.2.full t).1 ((y.2.undo (x.2.tr.length : Int)).full t).1 hfb (by rw [hf4]; exact hfb)) rfl rfl rfl trivial) rfl ?_
                  refine RO.opv (v' := .d (.bool _)) (opv_pick rfl rfl) rfl ?_
                  refine RO.opv (v' := .d (.bool _)) (opv_assign rfl) rfl ?_
                  refine RO.nil ?_
                  refine Runs.ret ?_
                  refine EndQ.tmp (.inr rfl) rfl rfl 0 (by exact Nat.le_refl _) (by exact Nat.zero_le _) trivial ⟨?_, rfl⟩
                  refine bool_eq ?_; rw [hf4, same_refl]
                · try simp only [decide_eq_true_eq, decide_eq_false_iff_not, beq_iff_eq, beq_eq_false_iff_ne, bne_iff_ne, bne_eq_false_iff_eq, Int.not_lt, Int.not_le, ne_eq, Bool.not_eq_true', Bool.not_eq_false', gt_iff_lt, ge_iff_le] at h24
                  exact absurd (by rw [hf4]) h24
              · try simp only [decide_eq_true_eq, decide_eq_false_iff_not, beq_iff_eq, beq_eq_false_iff_ne, bne_iff_ne, bne_eq_false_iff_eq, Int.not_lt, Int.not_le, ne_eq, Bool.not_eq_true', Bool.not_eq_false', gt_iff_lt, ge_iff_le] at h23
                exact absurd (by rw [hun.2]) h23
        · try simp only [decide_eq_true_eq, decide_eq_false_iff_not, beq_iff_eq, beq_eq_false_iff_ne, bne_iff_ne, bne_eq_false_iff_eq, Int.not_lt, Int.not_le, ne_eq, Bool.not_eq_true', Bool.not_eq_false', gt_iff_lt, ge_iff_le] at h18
          skip
          refine RO.off rfl ?_
          refine RO.off rfl ?_
          refine RO.opv (v' := .d (.bool false)) (opv_pick rfl rfl) rfl ?_
          refine RO.nil ?_
          refine Runs.condF rfl ?_
          refine Runs.exit ?_
          refine thenQ_exit ?_
          refine thenQ_exit ?_
          refine blockQ_here ?_
          refine thenQ_normal ?_
          refine Runs.has [(5, .ref 0 0), (6, .d (.bool false)), (7, .d (.bool true)), (8, .ref 3 0), (10, .d (.int _ _)), (11, .ref 4 0), (12, .d (.int _ _)), (13, .d (.list (encs _)))] ⟨rfl, rfl, rfl, rfl, rfl, rfl, rfl, rfl, trivial⟩ ?_
          obtain ⟨_, _, hok3, hla⟩ := hj
          have hun := hla.undo
          have hok4 : (y.2.undo (x.2.tr.length : Int)).Ok (2 ^ 20) := hok1.congr hun.1.symm hun.2.symm
          have hf4 : ((y.2.undo (x.2.tr.length : Int)).full t) = (x.2.full t) := full_cs hun.1 t
          have hw4 : (y.2.undo (x.2.tr.length : Int)).wk = x.2.wk := wk_cs hun.1
          refine Runs.rseq ?_
          refine RO.opv (v' := .ref 3 0) (opv_move rfl) rfl ?_
          refine RO.opv (v' := .d (.int _ _)) (opv_move rfl) rfl ?_
          refine RO.opn (O' := [_, _, _, _, _, _]) (opv_callS 1 3 (undo_fn y.2 (x.2.tr.length : Int) (Nat.le_trans hok3.trl (Nat.le_of_ble_eq_true rfl)) hok3.inb) rfl rfl rfl (Nat.le_of_ble_eq_true rfl) rfl (AV.bds_of_B _ rfl)) rfl rfl ?_
          refine RO.nil ?_
          refine Runs.has [(5, .ref 0 0), (6, .d (.bool false)), (7, .d (.bool true)), (8, .ref 3 0), (10, .d (.int _ _)), (11, .ref 4 0), (12, .d (.int _ _)), (13, .d (.list (encs _)))] ⟨rfl, rfl, rfl, rfl, rfl, rfl, rfl, rfl, trivial⟩ ?_
          refine Runs.rseq ?_
          refine RO.opv (v' := .ref 3 0) (opv_move rfl) rfl ?_
          refine RO.opv (v' := .d (enc _)) (opv_load_term rfl rfl rfl) rfl ?_
          refine RO.opn (O' := [_, _, _, _, _, _]) (opv_callS 1 3 (full_fn (y.2.undo (x.2.tr.length : Int)) t (hok4.small' (Nat.le_of_ble_eq_true rfl)) hok4.ends (by omega)) rfl rfl rfl (Nat.le_of_ble_eq_true rfl) rfl (AV.bds_of_B _ rfl)) rfl rfl ?_
          refine RO.opv (opv_move rfl) rfl ?_
          refine RO.opv (v' := .d (enc _)) (opv_extract rfl rfl) rfl ?_
          refine RO.opv (v' := .d (.int _ _)) (opv_extract rfl rfl) rfl ?_
          refine RO.opn (v' := .ref 6 0) (O' := [_, _, _, _, _, _, _]) (opv_alloc) rfl rfl ?_
          refine RO.op0n (O' := [_, _, _, _, _, _, _]) (opv_store_term rfl rfl rfl (Nat.le_of_ble_eq_true rfl)) rfl ?_
          refine RO.opv (v' := .d (.int _ _)) (opv_assign rfl) rfl ?_
          refine RO.nil ?_
          refine Runs.has [(6, .d (.bool false)), (7, .d (.bool true)), (8, .ref 3 0), (10, .d (.int _ _)), (11, .ref 4 0), (12, .d (.int _ _)), (13, .d (.list (encs _))), (16, .ref 6 0), (17, .d (.int _ _))] ⟨rfl, rfl, rfl, rfl, rfl, rfl, rfl, rfl, rfl, trivial⟩ ?_
          refine Runs.seq ?_
          refine Runs.rseq ?_
          refine RO.opv (v' := .d (.int _ _)) (opv_assign rfl) rfl ?_
          refine RO.nil ?_
          refine Runs.block ?_
          refine Runs.loopC (X := Nat) (fun z => z ≤ 12) (fun z => 12 - z) [(7, .d (.bool true)), (8, .ref 3 0), (10, .d (.int _ _)), (11, .ref 4 0), (12, .d (.int _ _)), (13, .d (.list (encs _))), (16, .ref 6 0), (17, .d (.int _ _))] (fun z => [(18, .d (.int .i64 (z : Nat)))]) [_, _, _, _, _, _, _] (fun z => []) (0) ⟨rfl, rfl, rfl, rfl, rfl, rfl, rfl, rfl, trivial⟩ ⟨rfl, trivial⟩ rfl (by omega) fun z hz => ?_
          refine Runs.seq ?_
          refine Runs.rseq ?_
          refine RO.opv (v' := .d (.int _ _)) (opv_move rfl) rfl ?_
          refine RO.opc (opv_bin rfl rfl rfl) (fun h25 => ?_) (fun h25 => ?_)
          · try simp only [decide_eq_true_eq, decide_eq_false_iff_not, beq_iff_eq, beq_eq_false_iff_ne, bne_iff_ne, bne_eq_false_iff_eq, Int.not_lt, Int.not_le, ne_eq, Bool.not_eq_true', Bool.not_eq_false', gt_iff_lt, ge_iff_le] at h25
            have hk4 : z < 12 := by omega
            refine RO.nil ?_
            refine Runs.condT rfl ?_
            refine Runs.skip ?_
            refine thenQ_normal ?_
            refine Runs.has [(7, .d (.bool true)), (8, .ref 3 0), (10, .d (.int _ _)), (11, .ref 4 0), (12, .d (.int _ _)), (13, .d (.list (encs _))), (16, .ref 6 0), (17, .d (.int _ _)), (18, .d (.int _ _))] ⟨rfl, rfl, rfl, rfl, rfl, rfl, rfl, rfl, rfl, trivial⟩ ?_
            refine Runs.seq ?_
            refine Runs.block ?_
            refine Runs.seq ?_
            refine Runs.drawn (by kernel_rfl) [] [false, false, false, false, false, false, false, false, false, false] [false, false, false, false, false, false, false, false, false, false] (by decide +kernel) ?_
            refine RD.opv (v' := .ref 3 0) (opv_move rfl) rfl ?_
            refine RD.opv (v' := .d (.int _ _)) (opv_move rfl) rfl ?_
            refine RD.opv (v' := .d (enc _)) (opv_callF (let_fn (z : Int)) rfl rfl rfl trivial) rfl ?_
            refine RD.opq (v' := .d (enc _)) (opv_callS 1 3 (wk_fn (y.2.undo (x.2.tr.length : Int)) (lets (z : Int)) (hok4.ends _)) rfl rfl rfl (Nat.le_of_ble_eq_true rfl) rfl (AV.bds_of_B _ rfl)) rfl rfl ?_
            refine RD.opv (v' := .d (.list (encs _))) (opv_move rfl) rfl ?_
            refine RD.opv (v' := .d (.int _ _)) (opv_move rfl) rfl ?_
            refine RD.opv (v' := .d (.ptr _)) (opv_index_terms rfl rfl (by simp; omega)) rfl ?_
            refine RD.opv (v' := .d (enc _)) (opv_load_pterm rfl) rfl ?_
            refine RD.opv (v' := .d (.bool _)) (opv_callF (same_fn ((y.2.undo (x.2.tr.length : Int)).wk (lets (z : Int))) (((List.range 12).map fun (j : Nat) => x.2.wk (lets (j : Int)))[z]'(by simp; omega)) (by rw [hw4]; have := hwb z; omega) (by simp only [List.getElem_map]; have := hwb (((List.range 12)[z]'(by simp; omega) : Nat) : Int); omega)) rfl rfl rfl trivial) rfl ?_
            refine RD.opc (opv_not rfl rfl) (fun h26 => ?_) (fun h26 => ?_)
            · try simp only [decide_eq_true_eq, decide_eq_false_iff_not, beq_iff_eq, beq_eq_false_iff_ne, bne_iff_ne, bne_eq_false_iff_eq, Int.not_lt, Int.not_le, ne_eq, Bool.not_eq_true', Bool.not_eq_false', gt_iff_lt, ge_iff_le] at h26
              rw [hw4] at h26; simp [same_refl] at h26
            · try simp only [decide_eq_true_eq, decide_eq_false_iff_not, beq_iff_eq, beq_eq_false_iff_ne, bne_iff_ne, bne_eq_false_iff_eq, Int.not_lt, Int.not_le, ne_eq, Bool.not_eq_true', Bool.not_eq_false', gt_iff_lt, ge_iff_le] at h26
              refine RD.nil ?_
              refine thenQ_normal ?_
              refine Runs.condF rfl ?_
              refine Runs.skip ?_
              refine blockQ_normal ?_
              refine thenQ_normal ?_
              refine Runs.has [(7, .d (.bool true)), (8, .ref 3 0), (10, .d (.int _ _)), (11, .ref 4 0), (12, .d (.int _ _)), (13, .d (.list (encs _))), (16, .ref 6 0), (17, .d (.int _ _)), (18, .d (.int _ _))] ⟨rfl, rfl, rfl, rfl, rfl, rfl, rfl, rfl, rfl, trivial⟩ ?_
              refine Runs.region ?_
              refine RO.opv (v' := .d (.int _ _)) (opv_move rfl) rfl ?_
              refine RO.opv (v' := .d (.int _ _)) (opv_arith rfl rfl (binD_add (r := ((z + 1 : Nat) : Int)) (by refine (wrap64 ?_ ?_).trans ?_ <;> omega))) rfl ?_
              refine RO.opv (v' := .d (.int _ _)) (opv_assign rfl) rfl ?_
              refine RO.nil ?_
              refine thenQ_normal ?_
              refine ⟨z + 1, 7, (by rw [hK]; exact Nat.le_of_ble_eq_true rfl), ⟨rfl, rfl, rfl, rfl, rfl, rfl, rfl, rfl, trivial⟩, ⟨?_, trivial⟩, rfl, ?_, ?_⟩
              · rfl
              · omega
              · omega
          · try simp only [decide_eq_true_eq, decide_eq_false_iff_not, beq_iff_eq, beq_eq_false_iff_ne, bne_iff_ne, bne_eq_false_iff_eq, Int.not_lt, Int.not_le, ne_eq, Bool.not_eq_true', Bool.not_eq_false', gt_iff_lt, ge_iff_le] at h25
            skip
            refine RO.nil ?_
            refine Runs.condF rfl ?_
            refine Runs.exit ?_
            refine thenQ_exit ?_
            refine thenQ_exit ?_
            refine blockQ_here ?_
            refine thenQ_normal ?_
            refine Runs.has [(7, .d (.bool true)), (8, .ref 3 0), (10, .d (.int _ _)), (11, .ref 4 0), (12, .d (.int _ _)), (16, .ref 6 0), (17, .d (.int _ _))] ⟨rfl, rfl, rfl, rfl, rfl, rfl, rfl, trivial⟩ ?_
            refine Runs.rseq ?_
            refine RO.opv (v' := .d (.bool true)) (opv_move rfl) rfl ?_
            refine RO.opv (v' := .d (.bool true)) (opv_move rfl) rfl ?_
            refine RO.opgv (v' := .ref 3 0) rfl (opv_move rfl) rfl ?_
            refine RO.opgn (v' := .d (.int _ _)) (O' := [_, _, _, _, _, _, _]) rfl (opv_callS 1 3 (mark_fn (y.2.undo (x.2.tr.length : Int))) rfl rfl rfl (Nat.le_of_ble_eq_true rfl) rfl (AV.bds_of_B _ rfl)) rfl rfl ?_
            refine RO.opgv (v' := .d (.int _ _)) rfl (opv_move rfl) rfl ?_
            refine RO.opgv (v' := .d (.bool _)) rfl (opv_bin rfl rfl rfl) rfl ?_
            refine RO.opv (v' := .d (.bool _)) (opv_pick rfl rfl) rfl ?_
            refine RO.opc (opv_move rfl) (fun h27 => ?_) (fun h27 => ?_)
            · try simp only [decide_eq_true_eq, decide_eq_false_iff_not, beq_iff_eq, beq_eq_false_iff_ne, bne_iff_ne, bne_eq_false_iff_eq, Int.not_lt, Int.not_le, ne_eq, Bool.not_eq_true', Bool.not_eq_false', gt_iff_lt, ge_iff_le] at h27
              refine RO.opgv (v' := .d (.int _ _)) rfl (opv_move rfl) rfl ?_
              refine RO.opgv (v' := .d (.int _ _)) rfl (opv_move rfl) rfl ?_
              refine RO.opgv (v' := .d (.bool _)) rfl (opv_bin rfl rfl rfl) rfl ?_
              refine RO.opv (v' := .d (.bool _)) (opv_pick rfl rfl) rfl ?_
              refine RO.opc (opv_move rfl) (fun h28 => ?_) (fun h28 => ?_)
              · try simp only [decide_eq_true_eq, decide_eq_false_iff_not, beq_iff_eq, beq_eq_false_iff_ne, bne_iff_ne, bne_eq_false_iff_eq, Int.not_lt, Int.not_le, ne_eq, Bool.not_eq_true', Bool.not_eq_false', gt_iff_lt, ge_iff_le] at h28
                refine RO.opgv (v' := .d (enc _)) rfl (opv_load_term rfl rfl rfl) rfl ?_
                refine RO.opgv (v' := .d (enc _)) rfl (opv_load_term rfl rfl rfl) rfl ?_
                refine RO.opgv (v' := .d (.bool _)) rfl (opv_callF (same_fn (x.2.full t).1 ((y.2.undo (x.2.tr.length : Int)).full t).1 hfb (by rw [hf4]; exact hfb)) rfl rfl rfl trivial) rfl ?_
                refine RO.opv (v' := .d (.bool _)) (opv_pick rfl rfl) rfl ?_
                refine RO.opv (v' := .d (.bool _)) (opv_assign rfl) rfl ?_
                refine RO.nil ?_
                refine Runs.ret ?_
                refine EndQ.tmp (.inr rfl) rfl rfl 0 (by exact Nat.le_refl _) (by exact Nat.zero_le _) trivial ⟨?_, rfl⟩
                refine bool_eq ?_; rw [hf4, same_refl]
              · try simp only [decide_eq_true_eq, decide_eq_false_iff_not, beq_iff_eq, beq_eq_false_iff_ne, bne_iff_ne, bne_eq_false_iff_eq, Int.not_lt, Int.not_le, ne_eq, Bool.not_eq_true', Bool.not_eq_false', gt_iff_lt, ge_iff_le] at h28
                exact absurd (by rw [hf4]) h28
            · try simp only [decide_eq_true_eq, decide_eq_false_iff_not, beq_iff_eq, beq_eq_false_iff_ne, bne_iff_ne, bne_eq_false_iff_eq, Int.not_lt, Int.not_le, ne_eq, Bool.not_eq_true', Bool.not_eq_false', gt_iff_lt, ge_iff_le] at h27
              exact absurd (by rw [hun.2]) h27
theorem storeUndoes_row (l m : List Deed) (t : Term) (g1 : sumN (fun d => d.t.bulk) l ≤ 2 ^ 20) (_f1 : ∀ d ∈ l, d.t.fits) (g2 : sumN (fun d => d.t.bulk) m ≤ 2 ^ 20) (_f2 : ∀ d ∈ m, d.t.fits) (g3 : t.bulk ≤ 2 ^ 20) (_f3 : t.fits) : Fn Try.prog 5 [.d (.list (l.map encDeed)), .d (.list (m.map encDeed)), .d (enc t)] [] (.d (.bool true)) [] :=
  storeUndoes_fn l m t (fun d hd => Nat.le_trans (sumN_mem (f := fun d : Deed => d.t.bulk) hd) g1) (fun d hd => Nat.le_trans (sumN_mem (f := fun d : Deed => d.t.bulk) hd) g2) g3
end Go.Proofs.Ythnhhgchmojcgaa.AM
