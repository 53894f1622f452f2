import Derived.Test.YthnhhgchmojcgaaL0
import Derived.Test.YthnhhgchmojcgaaS6
import Derived.Test.YthnhhgchmojcgaaE1
namespace Go.Proofs.Ythnhhgchmojcgaa.AM
open Go
set_option linter.unusedVariables false
set_option linter.unusedSimpArgs false
def kv (v : Int) : Int := v.tmod 12
theorem kv_eq {v : Int} (h0 : 0 ≤ v) (h1 : v ≤ 255) : IntKind.i64.wrap (v.tmod 12) = kv v := by
  have h2 := Int.tmod_nonneg 12 h0
  have h3 := Int.tmod_lt_of_pos v (show (0 : Int) < 12 by decide)
  exact wrap64 (by omega) (by omega)
theorem storeFulls_fn (l : List Deed) (t : Term) (v : Int) (g1 : ∀ d ∈ l, d.t.bulk ≤ 2 ^ 20) (g2 : t.bulk ≤ 2 ^ 20) (g3 : 0 ≤ v) (g3' : v ≤ 255) : Fn Try.prog 7 [.d (.list (l.map encDeed)), .d (enc t), .d (.int .u8 v)] [] (.d (.bool true)) [] := by
  have hll : (l.map encDeed).length = l.length := List.length_map _
  have hlb : ∀ v : Int, (lets v).bulk ≤ 2 ^ 20 := fun v => by simp only [lets, Term.bulk, bulks]; exact Nat.le_of_ble_eq_true rfl
  refine Does.run Try.func7 rfl Try.ntmps7 rfl fun K hK => ?_
  refine Runs.rseq ?_
  refine RO.opn (v' := .ref 0 0) (O' := [_]) (opv_box_term rfl) rfl rfl ?_
  refine RO.opv (v' := .d (.bool false)) (opv_assign rfl) rfl ?_
  refine RO.nil ?_
  refine Runs.has [(0, .d (.list _)), (2, .d (.int _ _)), (4, .ref 0 0), (6, .d (.bool false))] ⟨rfl, rfl, rfl, rfl, trivial⟩ ?_
  refine Runs.rseq ?_
  refine RO.opv (v' := .d (.bool true)) (opv_callF (shown_fn) rfl rfl rfl trivial) rfl ?_
  refine RO.opv (v' := .d (.bool true)) (opv_assign rfl) rfl ?_
  refine RO.nil ?_
  refine Runs.has [(0, .d (.list _)), (2, .d (.int _ _)), (4, .ref 0 0), (6, .d (.bool false)), (7, .d (.bool true))] ⟨rfl, rfl, rfl, rfl, rfl, trivial⟩ ?_
  refine Runs.rseq ?_
  refine RO.opn (v' := .ref 3 0) (O' := [_, _, _, _]) (opv_callN 1 (new_fn) rfl rfl rfl) rfl rfl ?_
  refine RO.opv (v' := .ref 3 0) (opv_assign rfl) rfl ?_
  refine RO.nil ?_
  refine Runs.has [(0, .d (.list _)), (2, .d (.int _ _)), (4, .ref 0 0), (6, .d (.bool false)), (7, .d (.bool true)), (8, .ref 3 0)] ⟨rfl, rfl, rfl, rfl, rfl, rfl, trivial⟩ ?_
  refine Runs.seq ?_
  refine Runs.rseq ?_
  refine RO.opv (v' := .ref 3 0) (opv_move rfl) rfl ?_
  refine RO.opv (v' := .d (.bool false)) (opv_eqnil_ref rfl rfl rfl) rfl ?_
  refine RO.opv (v' := .d (.bool false)) (opv_move rfl) rfl ?_
  refine RO.opgv (v' := .d (enc _)) rfl (opv_load_term rfl rfl rfl) rfl ?_
  refine RO.opgv (v' := .d (.bool _)) rfl (opv_callF (few_fn t (by omega)) rfl rfl rfl trivial) rfl ?_
  refine RO.opgv (v' := .d (.bool _)) rfl (opv_not rfl rfl) rfl ?_
  refine RO.opc (opv_pick rfl rfl) (fun h1 => ?_) (fun h1 => ?_)
  · try simp only [decide_eq_true_eq, decide_eq_false_iff_not, beq_iff_eq, beq_eq_false_iff_ne, bne_iff_ne, bne_eq_false_iff_eq, Int.not_lt, Int.not_le, ne_eq, Bool.not_eq_true', Bool.not_eq_false', gt_iff_lt, ge_iff_le] at h1
    refine RO.nil ?_
    refine Runs.condT rfl ?_
    refine Runs.has [(0, .d (.list _)), (2, .d (.int _ _)), (4, .ref 0 0), (6, .d (.bool false)), (7, .d (.bool true)), (8, .ref 3 0)] ⟨rfl, rfl, rfl, rfl, rfl, rfl, trivial⟩ ?_
    refine Runs.rseq ?_
    refine RO.opv (v' := .ref 3 0) (opv_move rfl) rfl ?_
    refine RO.opv (v' := .d (.bool true)) (opv_nenil_ref rfl rfl rfl) rfl ?_
    refine RO.opv (v' := .d (.bool true)) (opv_move rfl) rfl ?_
    refine RO.opgv (v' := .d (.bool true)) rfl (opv_move rfl) rfl ?_
    refine RO.opv (v' := .d (.bool true)) (opv_pick rfl rfl) rfl ?_
    refine RO.opv (v' := .d (.bool true)) (opv_assign rfl) rfl ?_
    refine RO.nil ?_
    refine Runs.ret ?_
    refine thenQ_ret ?_
    refine EndQ.tmp (.inr rfl) rfl rfl 0 (by exact Nat.le_refl _) (by exact Nat.zero_le _) trivial ⟨?_, rfl⟩
    first
      | rfl
      | (refine bool_eq ?_; rw [full_zero he]; rfl)
      | (refine bool_eq ?_
         have hfr : x.2.at (kv v) = none := by
           have hE := hok1.ends (lets (kv v))
           rw [look_at] at hE
           simp_all
         rw [occ_has hok1 hov hfr (alone_okv (check_zero.1 hc).2.2) hF]; simp)
  · try simp only [decide_eq_true_eq, decide_eq_false_iff_not, beq_iff_eq, beq_eq_false_iff_ne, bne_iff_ne, bne_eq_false_iff_eq, Int.not_lt, Int.not_le, ne_eq, Bool.not_eq_true', Bool.not_eq_false', gt_iff_lt, ge_iff_le] at h1
    refine RO.nil ?_
    refine Runs.condF rfl ?_
    refine Runs.skip ?_
    refine thenQ_normal ?_
    refine Runs.has [(0, .d (.list _)), (2, .d (.int _ _)), (4, .ref 0 0), (6, .d (.bool false)), (7, .d (.bool true)), (8, .ref 3 0)] ⟨rfl, rfl, rfl, rfl, rfl, rfl, trivial⟩ ?_
    refine Runs.rseq ?_
    refine RO.opv (v' := .ref 3 0) (opv_move rfl) rfl ?_
    refine RO.opn (O' := [_, _, _, _]) (opv_callS 1 3 (fresh_fn e0 12 (Nat.zero_le _)) rfl rfl rfl (Nat.le_of_ble_eq_true rfl) rfl (AV.bds_of_B _ rfl)) rfl rfl ?_
    refine RO.nil ?_
    refine Runs.has [(0, .d (.list _)), (2, .d (.int _ _)), (4, .ref 0 0), (6, .d (.bool false)), (7, .d (.bool true)), (8, .ref 3 0)] ⟨rfl, rfl, rfl, rfl, rfl, rfl, trivial⟩ ?_
    refine Runs.seq ?_
    refine Runs.rseq ?_
    refine RO.opv (v' := .d (.int _ _)) (opv_assign rfl) rfl ?_
    refine RO.nil ?_
    refine Runs.block ?_
    refine Runs.loopC (X := (Nat × St)) (fun x => x.1 ≤ l.length ∧ x.1 ≤ 30 ∧ x.2.Ok (2 ^ 20) ∧ x.2.okv) (fun x => l.length - x.1) [(0, .d (.list _)), (2, .d (.int _ _)), (4, .ref 0 0), (6, .d (.bool false)), (7, .d (.bool true)), (8, .ref 3 0)] (fun x => [(9, .d (.int .i64 (x.1 : Nat)))]) [_] (fun x => [.buf 62 5 (encCells (x.2).cs) (x.2).v1, .buf 3 1 (ints (x.2).tr) (x.2).v2, .cells [.own 1 (x.2).v1, .own 2 (x.2).v2]]) (((0 : Nat), (e0.fresh 12).1)) ⟨rfl, rfl, rfl, rfl, rfl, rfl, trivial⟩ ⟨rfl, trivial⟩ rfl ⟨Nat.zero_le _, Nat.zero_le _, e0_ok.fresh 12, fun n u hn => by rw [fresh_at] at hn; simp [St.at, e0] at hn⟩ fun x hi => ?_
    refine Runs.seq ?_
    refine Runs.rseq ?_
    refine RO.opv (v' := .d (.int _ _)) (opv_move rfl) rfl ?_
    refine RO.opv (v' := .d (.list _)) (opv_move rfl) rfl ?_
    refine RO.opv (v' := .d (.int _ _)) (opv_len rfl rfl rfl) rfl ?_
    refine RO.opv (v' := .d (.bool _)) (opv_bin rfl rfl rfl) rfl ?_
    refine RO.opc (opv_move rfl) (fun h2 => ?_) (fun h2 => ?_)
    · try simp only [decide_eq_true_eq, decide_eq_false_iff_not, beq_iff_eq, beq_eq_false_iff_ne, bne_iff_ne, bne_eq_false_iff_eq, Int.not_lt, Int.not_le, ne_eq, Bool.not_eq_true', Bool.not_eq_false', gt_iff_lt, ge_iff_le] at h2
      have hk : x.1 < l.length := by omega
      refine RO.opgv (v' := .d (.int _ _)) rfl (opv_move rfl) rfl ?_
      refine RO.opgv (v' := .d (.bool _)) rfl (opv_bin rfl rfl rfl) rfl ?_
      refine RO.opc (opv_pick rfl rfl) (fun h3 => ?_) (fun h3 => ?_)
      · try simp only [decide_eq_true_eq, decide_eq_false_iff_not, beq_iff_eq, beq_eq_false_iff_ne, bne_iff_ne, bne_eq_false_iff_eq, Int.not_lt, Int.not_le, ne_eq, Bool.not_eq_true', Bool.not_eq_false', gt_iff_lt, ge_iff_le] at h3
        refine RO.nil ?_
        refine Runs.condT rfl ?_
        refine Runs.skip ?_
        refine thenQ_normal ?_
        refine Runs.has [(0, .d (.list _)), (2, .d (.int _ _)), (4, .ref 0 0), (6, .d (.bool false)), (7, .d (.bool true)), (8, .ref 3 0), (9, .d (.int _ _))] ⟨rfl, rfl, rfl, rfl, rfl, rfl, rfl, trivial⟩ ?_
        refine Runs.seq ?_
        refine Runs.block ?_
        refine Runs.rseq ?_
        refine RO.opv (v' := .d (.list _)) (opv_move rfl) rfl ?_
        refine RO.opv (v' := .d (.int _ _)) (opv_move rfl) rfl ?_
        refine RO.opv (v' := .d (.ptr _)) (opv_index_list (y := encDeed (l[x.1]'hk)) rfl rfl (Int.natCast_nonneg _) (by simp [hk]) rfl) rfl ?_
        refine RO.opv (v' := .d (.ptr _)) (opv_field_ptr rfl) rfl ?_
        refine RO.opv (v' := .d (enc _)) (opv_load_pterm (u := (l[x.1]'hk).t) rfl) rfl ?_
        refine RO.opv (v' := .d (.bool _)) (opv_callF (few_fn (l[x.1]'hk).t (by have := g1 _ (List.getElem_mem hk); omega)) rfl rfl rfl trivial) rfl ?_
        refine RO.opc (opv_move rfl) (fun h4 => ?_) (fun h4 => ?_)
        · try simp only [decide_eq_true_eq, decide_eq_false_iff_not, beq_iff_eq, beq_eq_false_iff_ne, bne_iff_ne, bne_eq_false_iff_eq, Int.not_lt, Int.not_le, ne_eq, Bool.not_eq_true', Bool.not_eq_false', gt_iff_lt, ge_iff_le] at h4
          refine RO.opgv (v' := .d (.list _)) rfl (opv_move rfl) rfl ?_
          refine RO.opgv (v' := .d (.int _ _)) rfl (opv_move rfl) rfl ?_
          refine RO.opgv (v' := .d (.ptr _)) rfl (opv_index_list (y := encDeed (l[x.1]'hk)) rfl rfl (Int.natCast_nonneg _) (by simp [hk]) rfl) rfl ?_
          refine RO.opgv (v' := .d (.ptr _)) rfl (opv_field_ptr rfl) rfl ?_
          refine RO.opgv (v' := .d (enc _)) rfl (opv_load_pterm (u := (l[x.1]'hk).t) rfl) rfl ?_
          refine RO.opgv (v' := .d (.int _ _)) rfl (opv_callF (check_fn (l[x.1]'hk).t 16 (by have := g1 _ (List.getElem_mem hk); omega)) rfl rfl rfl trivial) rfl ?_
          refine RO.opgv (v' := .d (.bool _)) rfl (opv_bin rfl rfl rfl) rfl ?_
          refine RO.opc (opv_pick rfl rfl) (fun h5 => ?_) (fun h5 => ?_)
          · try simp only [decide_eq_true_eq, decide_eq_false_iff_not, beq_iff_eq, beq_eq_false_iff_ne, bne_iff_ne, bne_eq_false_iff_eq, Int.not_lt, Int.not_le, ne_eq, Bool.not_eq_true', Bool.not_eq_false', gt_iff_lt, ge_iff_le] at h5
            have hck := h5
            refine RO.nil ?_
            refine Runs.condT rfl ?_
            refine Runs.has [(0, .d (.list _)), (2, .d (.int _ _)), (4, .ref 0 0), (6, .d (.bool false)), (7, .d (.bool true)), (8, .ref 3 0), (9, .d (.int _ _))] ⟨rfl, rfl, rfl, rfl, rfl, rfl, rfl, trivial⟩ ?_
            refine Runs.drawn (by kernel_rfl) [] [false, false, false, false, false, false, false, false, false, false, false, false] [false, false, false, false, false, false, false, false, false, false, false, true] (by decide +kernel) ?_
            refine RD.opv (v' := .ref 3 0) (opv_move rfl) rfl ?_
            refine RD.opv (v' := .d (.list _)) (opv_move rfl) rfl ?_
            refine RD.opv (v' := .d (.int _ _)) (opv_move rfl) rfl ?_
            refine RD.opv (v' := .d (.ptr _)) (opv_index_list (y := encDeed (l[x.1]'hk)) rfl rfl (Int.natCast_nonneg _) (by simp [hk]) rfl) rfl ?_
            refine RD.opv (v' := .d (.ptr _)) (opv_field_ptr rfl) rfl ?_
            refine RD.opv (v' := .d (.int _ _)) (opv_load_ptr rfl rfl) rfl ?_
            refine RD.opv (v' := .d (.list _)) (opv_move rfl) rfl ?_
            refine RD.opv (v' := .d (.int _ _)) (opv_move rfl) rfl ?_
            refine RD.opv (v' := .d (.ptr _)) (opv_index_list (y := encDeed (l[x.1]'hk)) rfl rfl (Int.natCast_nonneg _) (by simp [hk]) rfl) rfl ?_
            refine RD.opv (v' := .d (.ptr _)) (opv_field_ptr rfl) rfl ?_
            refine RD.opv (v' := .d (enc _)) (opv_load_pterm (u := (l[x.1]'hk).t) rfl) rfl ?_
            refine RD.opn (v' := .d (.int _ _)) (O' := [_, _, _, _]) (opv_callS 1 3 (bind_fn x.2 (l[x.1]'hk).n (l[x.1]'hk).t (hi.2.2.1.small' (Nat.le_of_ble_eq_true rfl)) (by have := g1 _ (List.getElem_mem hk); omega) (Nat.le_trans hi.2.2.1.len (Nat.le_of_ble_eq_true rfl)) (Nat.lt_of_le_of_lt hi.2.2.1.trl (Nat.lt_of_sub_pos (by decide)))) rfl rfl rfl (Nat.le_of_ble_eq_true rfl) rfl (AV.bds_of_B _ rfl)) rfl rfl trivial ?_
            refine RD.nil ?_
            refine blockQ_normal ?_
            refine thenQ_normal ?_
            refine Runs.has [(0, .d (.list _)), (2, .d (.int _ _)), (4, .ref 0 0), (6, .d (.bool false)), (7, .d (.bool true)), (8, .ref 3 0), (9, .d (.int _ _))] ⟨rfl, rfl, rfl, rfl, rfl, rfl, rfl, trivial⟩ ?_
            refine Runs.region ?_
            refine RO.opv (v' := .d (.int _ _)) (opv_move rfl) rfl ?_
            refine RO.opv (v' := .d (.int _ _)) (opv_arith rfl rfl (binD_add (r := ((x.1 + 1 : Nat) : Int)) (by refine (wrap64 ?_ ?_).trans ?_ <;> omega))) rfl ?_
            refine RO.opv (v' := .d (.int _ _)) (opv_assign rfl) rfl ?_
            refine RO.nil ?_
            refine thenQ_normal ?_
            refine ⟨(x.1 + 1, (x.2.bind (l[x.1]'hk).n (l[x.1]'hk).t).1), 4, (by rw [hK]; exact Nat.le_of_ble_eq_true rfl), ⟨rfl, rfl, rfl, rfl, rfl, rfl, trivial⟩, ⟨?_, trivial⟩, rfl, ?_, ?_⟩
            · rfl
            · exact ⟨hk, by show x.1 + 1 ≤ 30; omega, hi.2.2.1.bind _ _ (g1 _ (List.getElem_mem hk)), bind_okv hi.2.2.2 (alone_okv (check_zero.1 hck).2.2)⟩
            · show l.length - (x.1 + 1) < _; omega
          · try simp only [decide_eq_true_eq, decide_eq_false_iff_not, beq_iff_eq, beq_eq_false_iff_ne, bne_iff_ne, bne_eq_false_iff_eq, Int.not_lt, Int.not_le, ne_eq, Bool.not_eq_true', Bool.not_eq_false', gt_iff_lt, ge_iff_le] at h5
            skip
            refine RO.nil ?_
            refine Runs.condF rfl ?_
            refine Runs.skip ?_
            refine blockQ_normal ?_
            refine thenQ_normal ?_
            refine Runs.has [(0, .d (.list _)), (2, .d (.int _ _)), (4, .ref 0 0), (6, .d (.bool false)), (7, .d (.bool true)), (8, .ref 3 0), (9, .d (.int _ _))] ⟨rfl, rfl, rfl, rfl, rfl, rfl, rfl, trivial⟩ ?_
            refine Runs.region ?_
            refine RO.opv (v' := .d (.int _ _)) (opv_move rfl) rfl ?_
            refine RO.opv (v' := .d (.int _ _)) (opv_arith rfl rfl (binD_add (r := ((x.1 + 1 : Nat) : Int)) (by refine (wrap64 ?_ ?_).trans ?_ <;> omega))) rfl ?_
            refine RO.opv (v' := .d (.int _ _)) (opv_assign rfl) rfl ?_
            refine RO.nil ?_
            refine thenQ_normal ?_
            refine ⟨(x.1 + 1, x.2), 4, (by rw [hK]; exact Nat.le_of_ble_eq_true rfl), ⟨rfl, rfl, rfl, rfl, rfl, rfl, trivial⟩, ⟨?_, trivial⟩, rfl, ?_, ?_⟩
            · rfl
            · exact ⟨hk, by show x.1 + 1 ≤ 30; omega, hi.2.2⟩
            · show l.length - (x.1 + 1) < _; omega
        · try simp only [decide_eq_true_eq, decide_eq_false_iff_not, beq_iff_eq, beq_eq_false_iff_ne, bne_iff_ne, bne_eq_false_iff_eq, Int.not_lt, Int.not_le, ne_eq, Bool.not_eq_true', Bool.not_eq_false', gt_iff_lt, ge_iff_le] at h4
          refine RO.off rfl ?_
          refine RO.off rfl ?_
          refine RO.off rfl ?_
          refine RO.off rfl ?_
          refine RO.off rfl ?_
          refine RO.off rfl ?_
          refine RO.off rfl ?_
          refine RO.opv (v' := .d (.bool false)) (opv_pick rfl rfl) rfl ?_
          refine RO.nil ?_
          refine Runs.condF rfl ?_
          refine Runs.skip ?_
          refine blockQ_normal ?_
          refine thenQ_normal ?_
          refine Runs.has [(0, .d (.list _)), (2, .d (.int _ _)), (4, .ref 0 0), (6, .d (.bool false)), (7, .d (.bool true)), (8, .ref 3 0), (9, .d (.int _ _))] ⟨rfl, rfl, rfl, rfl, rfl, rfl, rfl, trivial⟩ ?_
          refine Runs.region ?_
          refine RO.opv (v' := .d (.int _ _)) (opv_move rfl) rfl ?_
          refine RO.opv (v' := .d (.int _ _)) (opv_arith rfl rfl (binD_add (r := ((x.1 + 1 : Nat) : Int)) (by refine (wrap64 ?_ ?_).trans ?_ <;> omega))) rfl ?_
          refine RO.opv (v' := .d (.int _ _)) (opv_assign rfl) rfl ?_
          refine RO.nil ?_
          refine thenQ_normal ?_
          refine ⟨(x.1 + 1, x.2), 4, (by rw [hK]; exact Nat.le_of_ble_eq_true rfl), ⟨rfl, rfl, rfl, rfl, rfl, rfl, trivial⟩, ⟨?_, trivial⟩, rfl, ?_, ?_⟩
          · rfl
          · exact ⟨hk, by show x.1 + 1 ≤ 30; omega, hi.2.2⟩
          · show l.length - (x.1 + 1) < _; omega
      · try simp only [decide_eq_true_eq, decide_eq_false_iff_not, beq_iff_eq, beq_eq_false_iff_ne, bne_iff_ne, bne_eq_false_iff_eq, Int.not_lt, Int.not_le, ne_eq, Bool.not_eq_true', Bool.not_eq_false', gt_iff_lt, ge_iff_le] at h3
        refine RO.nil ?_
        refine Runs.condF rfl ?_
        refine Runs.exit ?_
        refine thenQ_exit ?_
        refine thenQ_exit ?_
        refine blockQ_here ?_
        refine thenQ_normal ?_
        refine Runs.has [(2, .d (.int _ _)), (4, .ref 0 0), (6, .d (.bool false)), (7, .d (.bool true)), (8, .ref 3 0)] ⟨rfl, rfl, rfl, rfl, rfl, trivial⟩ ?_
        have hok1 := hi.2.2.1
        have hov := hi.2.2.2
        have hfb := full_bulk (t := t) hok1.small (by omega)
        refine Runs.rseq ?_
        refine RO.opv (v' := .ref 3 0) (opv_move rfl) rfl ?_
        refine RO.opv (v' := .d (enc _)) (opv_load_term rfl rfl rfl) rfl ?_
        refine RO.opn (O' := [_, _, _, _]) (opv_callS 1 3 (full_fn x.2 t (hok1.small' (Nat.le_of_ble_eq_true rfl)) hok1.ends (by omega)) rfl rfl rfl (Nat.le_of_ble_eq_true rfl) rfl (AV.bds_of_B _ rfl)) rfl rfl ?_
        refine RO.opv (opv_move rfl) rfl ?_
        refine RO.opv (v' := .d (enc _)) (opv_extract rfl rfl) rfl ?_
        refine RO.opv (v' := .d (.int _ _)) (opv_extract rfl rfl) rfl ?_
        refine RO.opn (v' := .ref 4 0) (O' := [_, _, _, _, _]) (opv_alloc) rfl rfl ?_
        refine RO.op0n (O' := [_, _, _, _, _]) (opv_store_term rfl rfl rfl (Nat.le_of_ble_eq_true rfl)) rfl ?_
        refine RO.opv (v' := .d (.int _ _)) (opv_assign rfl) rfl ?_
        refine RO.nil ?_
        refine Runs.has [(2, .d (.int _ _)), (4, .ref 0 0), (6, .d (.bool false)), (7, .d (.bool true)), (8, .ref 3 0), (10, .ref 4 0), (11, .d (.int _ _))] ⟨rfl, rfl, rfl, rfl, rfl, rfl, rfl, trivial⟩ ?_
        refine Runs.seq ?_
        refine Runs.rseq ?_
        refine RO.opv (v' := .d (.int _ _)) (opv_move rfl) rfl ?_
        refine RO.opv (v' := .d (.bool _)) (opv_bin rfl rfl rfl) rfl ?_
        refine RO.opc (opv_move rfl) (fun h6 => ?_) (fun h6 => ?_)
        · try simp only [decide_eq_true_eq, decide_eq_false_iff_not, beq_iff_eq, beq_eq_false_iff_ne, bne_iff_ne, bne_eq_false_iff_eq, Int.not_lt, Int.not_le, ne_eq, Bool.not_eq_true', Bool.not_eq_false', gt_iff_lt, ge_iff_le] at h6
          have he := h6
          refine RO.off rfl ?_
          refine RO.off rfl ?_
          refine RO.off rfl ?_
          refine RO.opv (v' := .d (.bool true)) (opv_pick rfl rfl) rfl ?_
          refine RO.nil ?_
          refine Runs.condT rfl ?_
          refine Runs.has [(2, .d (.int _ _)), (4, .ref 0 0), (6, .d (.bool false)), (7, .d (.bool true)), (8, .ref 3 0), (10, .ref 4 0), (11, .d (.int _ _))] ⟨rfl, rfl, rfl, rfl, rfl, rfl, rfl, trivial⟩ ?_
          refine Runs.rseq ?_
          refine RO.opv (v' := .d (.bool true)) (opv_move rfl) rfl ?_
          refine RO.opv (v' := .d (.bool true)) (opv_move rfl) rfl ?_
          refine RO.opgv (v' := .d (.int _ _)) rfl (opv_move rfl) rfl ?_
          refine RO.opgv (v' := .d (.bool _)) rfl (opv_bin rfl rfl rfl) rfl ?_
          refine RO.opgc rfl (opv_move rfl) (fun h7 => ?_) (fun h7 => ?_)
          · try simp only [decide_eq_true_eq, decide_eq_false_iff_not, beq_iff_eq, beq_eq_false_iff_ne, bne_iff_ne, bne_eq_false_iff_eq, Int.not_lt, Int.not_le, ne_eq, Bool.not_eq_true', Bool.not_eq_false', gt_iff_lt, ge_iff_le] at h7
            exact absurd h7 he
          · try simp only [decide_eq_true_eq, decide_eq_false_iff_not, beq_iff_eq, beq_eq_false_iff_ne, bne_iff_ne, bne_eq_false_iff_eq, Int.not_lt, Int.not_le, ne_eq, Bool.not_eq_true', Bool.not_eq_false', gt_iff_lt, ge_iff_le] at h7
            refine RO.opgv (v' := .ref 4 0) rfl (opv_field_ref rfl rfl) rfl ?_
            refine RO.opgv (v' := .d (.int _ _)) rfl (opv_load_ref rfl rfl rfl) rfl ?_
            refine RO.opgv (v' := .d (.bool _)) rfl (opv_bin rfl rfl rfl) rfl ?_
            refine RO.opgv (v' := .d (.bool _)) rfl (opv_pick rfl rfl) rfl ?_
            refine RO.opv (v' := .d (.bool _)) (opv_pick rfl rfl) rfl ?_
            refine RO.opv (v' := .d (.bool _)) (opv_assign rfl) rfl ?_
            refine RO.nil ?_
            refine Runs.ret ?_
            refine thenQ_ret ?_
            refine EndQ.tmp (.inr rfl) rfl rfl 0 (by exact Nat.le_refl _) (by exact Nat.zero_le _) trivial ⟨?_, rfl⟩
            first
              | rfl
              | (refine bool_eq ?_; rw [full_zero he]; rfl)
              | (refine bool_eq ?_
                 have hfr : x.2.at (kv v) = none := by
                   have hE := hok1.ends (lets (kv v))
                   rw [look_at] at hE
                   simp_all
                 rw [occ_has hok1 hov hfr (alone_okv (check_zero.1 hc).2.2) hF]; simp)
        · try simp only [decide_eq_true_eq, decide_eq_false_iff_not, beq_iff_eq, beq_eq_false_iff_ne, bne_iff_ne, bne_eq_false_iff_eq, Int.not_lt, Int.not_le, ne_eq, Bool.not_eq_true', Bool.not_eq_false', gt_iff_lt, ge_iff_le] at h6
          have he : (x.2.full t).2 = 0 := by omega
          refine RO.opgv (v' := .d (enc _)) rfl (opv_load_term rfl rfl rfl) rfl ?_
          refine RO.opgv (v' := .d (.int _ _)) rfl (opv_callF (check_fn t 16 (by omega)) rfl rfl rfl trivial) rfl ?_
          refine RO.opgv (v' := .d (.bool _)) rfl (opv_bin rfl rfl rfl) rfl ?_
          refine RO.opc (opv_pick rfl rfl) (fun h8 => ?_) (fun h8 => ?_)
          · try simp only [decide_eq_true_eq, decide_eq_false_iff_not, beq_iff_eq, beq_eq_false_iff_ne, bne_iff_ne, bne_eq_false_iff_eq, Int.not_lt, Int.not_le, ne_eq, Bool.not_eq_true', Bool.not_eq_false', gt_iff_lt, ge_iff_le] at h8
            have hc := h8
            refine RO.nil ?_
            refine Runs.condT rfl ?_
            refine Runs.has [(2, .d (.int _ _)), (4, .ref 0 0), (6, .d (.bool false)), (7, .d (.bool true)), (8, .ref 3 0), (10, .ref 4 0), (11, .d (.int _ _))] ⟨rfl, rfl, rfl, rfl, rfl, rfl, rfl, trivial⟩ ?_
            refine Runs.rseq ?_
            refine RO.opv (v' := .d (.bool true)) (opv_move rfl) rfl ?_
            refine RO.opv (v' := .d (.bool true)) (opv_move rfl) rfl ?_
            refine RO.opgv (v' := .d (.int _ _)) rfl (opv_move rfl) rfl ?_
            refine RO.opgv (v' := .d (.bool _)) rfl (opv_bin rfl rfl rfl) rfl ?_
            refine RO.opgc rfl (opv_move rfl) (fun h9 => ?_) (fun h9 => ?_)
            · try simp only [decide_eq_true_eq, decide_eq_false_iff_not, beq_iff_eq, beq_eq_false_iff_ne, bne_iff_ne, bne_eq_false_iff_eq, Int.not_lt, Int.not_le, ne_eq, Bool.not_eq_true', Bool.not_eq_false', gt_iff_lt, ge_iff_le] at h9
              refine RO.off rfl ?_
              refine RO.off rfl ?_
              refine RO.off rfl ?_
              refine RO.opgv (v' := .d (.bool true)) rfl (opv_pick rfl rfl) rfl ?_
              refine RO.opv (v' := .d (.bool true)) (opv_pick rfl rfl) rfl ?_
              refine RO.opv (v' := .d (.bool true)) (opv_assign rfl) rfl ?_
              refine RO.nil ?_
              refine Runs.ret ?_
              refine thenQ_ret ?_
              refine EndQ.tmp (.inr rfl) rfl rfl 0 (by exact Nat.le_refl _) (by exact Nat.zero_le _) trivial ⟨?_, rfl⟩
              first
                | rfl
                | (refine bool_eq ?_; rw [full_zero he]; rfl)
                | (refine bool_eq ?_
                   have hfr : x.2.at (kv v) = none := by
                     have hE := hok1.ends (lets (kv v))
                     rw [look_at] at hE
                     simp_all
                   rw [occ_has hok1 hov hfr (alone_okv (check_zero.1 hc).2.2) hF]; simp)
            · try simp only [decide_eq_true_eq, decide_eq_false_iff_not, beq_iff_eq, beq_eq_false_iff_ne, bne_iff_ne, bne_eq_false_iff_eq, Int.not_lt, Int.not_le, ne_eq, Bool.not_eq_true', Bool.not_eq_false', gt_iff_lt, ge_iff_le] at h9
              exact absurd he h9
          · try simp only [decide_eq_true_eq, decide_eq_false_iff_not, beq_iff_eq, beq_eq_false_iff_ne, bne_iff_ne, bne_eq_false_iff_eq, Int.not_lt, Int.not_le, ne_eq, Bool.not_eq_true', Bool.not_eq_false', gt_iff_lt, ge_iff_le] at h8
            have hc : t.check 16 = 0 := by omega
            obtain ⟨hF, hd, hz, _⟩ := full_spec hok1.small g2 he
            have hff : x.2.full (x.2.full t).1 = ((x.2.full t).1, 0) := full_of (fil_self hok1.ends _ _ hF) hd hz
            have hvl := vars_size (x.2.full t).1
            refine RO.nil ?_
            refine Runs.condF rfl ?_
            refine Runs.skip ?_
            refine thenQ_normal ?_
            refine Runs.has [(2, .d (.int _ _)), (4, .ref 0 0), (6, .d (.bool false)), (7, .d (.bool true)), (8, .ref 3 0), (10, .ref 4 0)] ⟨rfl, rfl, rfl, rfl, rfl, rfl, trivial⟩ ?_
            refine Runs.rseq ?_
            refine RO.opv (v' := .ref 3 0) (opv_move rfl) rfl ?_
            refine RO.opv (v' := .d (enc _)) (opv_load_term rfl rfl rfl) rfl ?_
            refine RO.opn (O' := [_, _, _, _, _]) (opv_callS 1 3 (full_fn x.2 (x.2.full t).1 (hok1.small' (Nat.le_of_ble_eq_true rfl)) hok1.ends hfb) rfl rfl rfl (Nat.le_of_ble_eq_true rfl) rfl (AV.bds_of_B _ rfl)) rfl rfl ?_
            refine RO.opv (opv_move rfl) rfl ?_
            refine RO.opv (v' := .d (enc _)) (opv_extract rfl rfl) rfl ?_
            refine RO.opv (v' := .d (.int _ _)) (opv_extract rfl rfl) rfl ?_
            refine RO.opn (v' := .ref 5 0) (O' := [_, _, _, _, _, _]) (opv_alloc) rfl rfl ?_
            refine RO.op0n (O' := [_, _, _, _, _, _]) (opv_store_term rfl rfl rfl (Nat.le_of_ble_eq_true rfl)) rfl ?_
            refine RO.opv (v' := .d (.int _ _)) (opv_assign rfl) rfl ?_
            refine RO.nil ?_
            refine Runs.has [(2, .d (.int _ _)), (4, .ref 0 0), (6, .d (.bool false)), (7, .d (.bool true)), (8, .ref 3 0), (10, .ref 4 0), (12, .ref 5 0), (13, .d (.int _ _))] ⟨rfl, rfl, rfl, rfl, rfl, rfl, rfl, rfl, trivial⟩ ?_
            refine Runs.rseq ?_
            refine RO.opv (v' := .d (enc _)) (opv_load_term rfl rfl rfl) rfl ?_
            refine RO.opv (v' := .d (.list (ints _))) (opv_callF (vars_fn (x.2.full t).1 hfb) rfl rfl rfl trivial) rfl ?_
            refine RO.opv (v' := .d (.list (ints _))) (opv_assign rfl) rfl ?_
            refine RO.nil ?_
            refine Runs.has [(2, .d (.int _ _)), (4, .ref 0 0), (6, .d (.bool false)), (7, .d (.bool true)), (8, .ref 3 0), (10, .ref 4 0), (12, .ref 5 0), (13, .d (.int _ _)), (14, .d (.list (ints _)))] ⟨rfl, rfl, rfl, rfl, rfl, rfl, rfl, rfl, rfl, trivial⟩ ?_
            refine Runs.seq ?_
            refine Runs.rseq ?_
            refine RO.opv (v' := .d (.int _ _)) (opv_assign rfl) rfl ?_
            refine RO.nil ?_
            refine Runs.block ?_
            refine Runs.loopC (X := Nat) (fun i => i ≤ (x.2.full t).1.vars.length) (fun i => (x.2.full t).1.vars.length - i) [(2, .d (.int _ _)), (4, .ref 0 0), (7, .d (.bool true)), (8, .ref 3 0), (10, .ref 4 0), (12, .ref 5 0), (13, .d (.int _ _)), (14, .d (.list (ints _)))] (fun i => [(15, .d (.int .i64 (i : Nat)))]) [_, _, _, _, _, _] (fun i => []) (0) ⟨rfl, rfl, rfl, rfl, rfl, rfl, rfl, rfl, trivial⟩ ⟨rfl, trivial⟩ rfl (by omega) fun i hi2 => ?_
            refine Runs.seq ?_
            refine Runs.rseq ?_
            refine RO.opv (v' := .d (.int _ _)) (opv_move rfl) rfl ?_
            refine RO.opv (v' := .d (.list (ints _))) (opv_move rfl) rfl ?_
            refine RO.opv (v' := .d (.int _ _)) (opv_len_ints rfl) rfl ?_
            refine RO.opc (opv_bin rfl rfl rfl) (fun h10 => ?_) (fun h10 => ?_)
            · try simp only [decide_eq_true_eq, decide_eq_false_iff_not, beq_iff_eq, beq_eq_false_iff_ne, bne_iff_ne, bne_eq_false_iff_eq, Int.not_lt, Int.not_le, ne_eq, Bool.not_eq_true', Bool.not_eq_false', gt_iff_lt, ge_iff_le] at h10
              have hk5 : i < (x.2.full t).1.vars.length := by omega
              obtain ⟨p, hp1, hp2, hp3⟩ := (mem_vars _ _).1 (List.getElem_mem hk5)
              have hp4 := fil_free hok1.ends _ _ hF p hp1
              have hw : x.2.wk (lets ((x.2.full t).1.vars[i]'hk5)) = lets ((x.2.full t).1.vars[i]'hk5) := wk_none (by rw [← hp4]; exact look_same hp2.symm hp3.symm)
              refine RO.nil ?_
              refine Runs.condT rfl ?_
              refine Runs.skip ?_
              refine thenQ_normal ?_
              refine Runs.has [(2, .d (.int _ _)), (4, .ref 0 0), (7, .d (.bool true)), (8, .ref 3 0), (10, .ref 4 0), (12, .ref 5 0), (13, .d (.int _ _)), (14, .d (.list (ints _))), (15, .d (.int _ _))] ⟨rfl, rfl, rfl, rfl, rfl, rfl, rfl, rfl, rfl, trivial⟩ ?_
              refine Runs.seq ?_
              refine Runs.block ?_
              refine Runs.rseq ?_
              refine RO.opv (v' := .ref 3 0) (opv_move rfl) rfl ?_
              refine RO.opv (v' := .d (.list (ints _))) (opv_move rfl) rfl ?_
              refine RO.opv (v' := .d (.int _ _)) (opv_move rfl) rfl ?_
              refine RO.opv (v' := .d (.ptr _)) (opv_index_ints rfl rfl (by omega)) rfl ?_
              refine RO.opv (v' := .d (.int _ _)) (opv_load_ptr rfl rfl) rfl ?_
              refine RO.opv (v' := .d (enc _)) (opv_callF (let_fn ((x.2.full t).1.vars[i]'hk5)) rfl rfl rfl trivial) rfl ?_
              refine RO.opn (v' := .d (enc _)) (O' := [_, _, _, _, _, _]) (opv_callS 1 3 (wk_fn x.2 (lets ((x.2.full t).1.vars[i]'hk5)) (hok1.ends _)) rfl rfl rfl (Nat.le_of_ble_eq_true rfl) rfl (AV.bds_of_B _ rfl)) rfl rfl ?_
              refine RO.opn (v' := .ref 6 0) (O' := [_, _, _, _, _, _, _]) (opv_alloc) rfl rfl ?_
              refine RO.op0n (O' := [_, _, _, _, _, _, _]) (opv_store_term rfl rfl rfl (Nat.le_of_ble_eq_true rfl)) rfl ?_
              refine RO.nil ?_
              refine Runs.has [(2, .d (.int _ _)), (4, .ref 0 0), (7, .d (.bool true)), (8, .ref 3 0), (10, .ref 4 0), (12, .ref 5 0), (13, .d (.int _ _)), (14, .d (.list (ints _))), (15, .d (.int _ _)), (16, .ref 6 0)] ⟨rfl, rfl, rfl, rfl, rfl, rfl, rfl, rfl, rfl, rfl, trivial⟩ ?_
              refine Runs.seq ?_
              refine Runs.drawn (by kernel_rfl) [] [false, false, false, false, false, false, false, false, false, false, false, false] [false, false, false, false, false, false, false, false, false, false, false, false] (by decide +kernel) ?_
              refine RD.opv (v' := .ref 6 0) (opv_field_ref rfl rfl) rfl ?_
              refine RD.opv (v' := .d (.int _ _)) (opv_load_ref rfl rfl rfl) rfl ?_
              refine RD.opv (v' := .d (.bool _)) (opv_bin rfl rfl rfl) rfl ?_
              refine RD.opc (opv_move rfl) (fun h11 => ?_) (fun h11 => ?_)
              · try simp only [decide_eq_true_eq, decide_eq_false_iff_not, beq_iff_eq, beq_eq_false_iff_ne, bne_iff_ne, bne_eq_false_iff_eq, Int.not_lt, Int.not_le, ne_eq, Bool.not_eq_true', Bool.not_eq_false', gt_iff_lt, ge_iff_le] at h11
                rw [hw] at h11; exact absurd rfl h11
              · try simp only [decide_eq_true_eq, decide_eq_false_iff_not, beq_iff_eq, beq_eq_false_iff_ne, bne_iff_ne, bne_eq_false_iff_eq, Int.not_lt, Int.not_le, ne_eq, Bool.not_eq_true', Bool.not_eq_false', gt_iff_lt, ge_iff_le] at h11
                refine RD.opgv (v' := .ref 6 1) rfl (opv_field_ref rfl rfl) rfl ?_
                refine RD.opgv (v' := .d (.int _ _)) rfl (opv_load_ref rfl rfl rfl) rfl ?_
                refine RD.opgv (v' := .d (.list (ints _))) rfl (opv_move rfl) rfl ?_
                refine RD.opgv (v' := .d (.int _ _)) rfl (opv_move rfl) rfl ?_
                refine RD.opgv (v' := .d (.ptr _)) rfl (opv_index_ints rfl rfl (by omega)) rfl ?_
                refine RD.opgv (v' := .d (.int _ _)) rfl (opv_load_ptr rfl rfl) rfl ?_
                refine RD.opgv (v' := .d (.bool _)) rfl (opv_bin rfl rfl rfl) rfl ?_
                refine RD.opc (opv_pick rfl rfl) (fun h12 => ?_) (fun h12 => ?_)
                · try simp only [decide_eq_true_eq, decide_eq_false_iff_not, beq_iff_eq, beq_eq_false_iff_ne, bne_iff_ne, bne_eq_false_iff_eq, Int.not_lt, Int.not_le, ne_eq, Bool.not_eq_true', Bool.not_eq_false', gt_iff_lt, ge_iff_le] at h12
                  rw [hw] at h12; exact absurd rfl h12
                · try simp only [decide_eq_true_eq, decide_eq_false_iff_not, beq_iff_eq, beq_eq_false_iff_ne, bne_iff_ne, bne_eq_false_iff_eq, Int.not_lt, Int.not_le, ne_eq, Bool.not_eq_true', Bool.not_eq_false', gt_iff_lt, ge_iff_le] at h12
                  refine RD.nil ?_
                  refine thenQ_normal ?_
                  refine Runs.condF rfl ?_
                  refine Runs.skip ?_
                  refine blockQ_normal ?_
                  refine thenQ_normal ?_
                  refine Runs.has [(2, .d (.int _ _)), (4, .ref 0 0), (7, .d (.bool true)), (8, .ref 3 0), (10, .ref 4 0), (12, .ref 5 0), (13, .d (.int _ _)), (14, .d (.list (ints _))), (15, .d (.int _ _))] ⟨rfl, rfl, rfl, rfl, rfl, rfl, rfl, rfl, rfl, trivial⟩ ?_
                  refine Runs.region ?_
                  refine RO.opv (v' := .d (.int _ _)) (opv_move rfl) rfl ?_
                  refine RO.opv (v' := .d (.int _ _)) (opv_arith rfl rfl (binD_add (r := ((i + 1 : Nat) : Int)) (by refine (wrap64 ?_ ?_).trans ?_ <;> omega))) rfl ?_
                  refine RO.opv (v' := .d (.int _ _)) (opv_assign rfl) rfl ?_
                  refine RO.nil ?_
                  refine thenQ_normal ?_
                  refine ⟨i + 1, 6, (by rw [hK]; exact Nat.le_of_ble_eq_true rfl), ⟨rfl, rfl, rfl, rfl, rfl, rfl, rfl, rfl, trivial⟩, ⟨?_, trivial⟩, rfl, ?_, ?_⟩
                  · rfl
                  · omega
                  · omega
            · try simp only [decide_eq_true_eq, decide_eq_false_iff_not, beq_iff_eq, beq_eq_false_iff_ne, bne_iff_ne, bne_eq_false_iff_eq, Int.not_lt, Int.not_le, ne_eq, Bool.not_eq_true', Bool.not_eq_false', gt_iff_lt, ge_iff_le] at h10
              skip
              refine RO.nil ?_
              refine Runs.condF rfl ?_
              refine Runs.exit ?_
              refine thenQ_exit ?_
              refine thenQ_exit ?_
              refine blockQ_here ?_
              refine thenQ_normal ?_
              refine Runs.has [(2, .d (.int _ _)), (4, .ref 0 0), (7, .d (.bool true)), (8, .ref 3 0), (10, .ref 4 0), (12, .ref 5 0), (13, .d (.int _ _)), (14, .d (.list (ints _)))] ⟨rfl, rfl, rfl, rfl, rfl, rfl, rfl, rfl, trivial⟩ ?_
              refine Runs.rseq ?_
              refine RO.opv (v' := .d (.int _ _)) (opv_move rfl) rfl ?_
              refine RO.opv (v' := .d (.int _ _)) (opv_bin rfl rfl rfl) rfl ?_
              refine RO.opv (v' := .d (.int _ _)) (opv_conv rfl rfl) rfl ?_
              refine RO.opv (v' := .d (.int _ _)) (opv_assign (int_eq (kv_eq g3 g3'))) rfl ?_
              refine RO.nil ?_
              refine Runs.has [(4, .ref 0 0), (7, .d (.bool true)), (8, .ref 3 0), (10, .ref 4 0), (12, .ref 5 0), (13, .d (.int _ _)), (14, .d (.list (ints _))), (17, .d (.int _ _))] ⟨rfl, rfl, rfl, rfl, rfl, rfl, rfl, rfl, trivial⟩ ?_
              refine Runs.rseq ?_
              refine RO.opv (v' := .ref 3 0) (opv_move rfl) rfl ?_
              refine RO.opv (v' := .d (.int _ _)) (opv_move rfl) rfl ?_
              refine RO.opv (v' := .d (enc _)) (opv_callF (let_fn (kv v)) rfl rfl rfl trivial) rfl ?_
              refine RO.opn (v' := .d (enc _)) (O' := [_, _, _, _, _, _]) (opv_callS 1 3 (wk_fn x.2 (lets (kv v)) (hok1.ends _)) rfl rfl rfl (Nat.le_of_ble_eq_true rfl) rfl (AV.bds_of_B _ rfl)) rfl rfl ?_
              refine RO.opv (v' := .d (.int _ _)) (opv_field_kind rfl) rfl ?_
              refine RO.opv (v' := .d (.bool _)) (opv_bin rfl rfl rfl) rfl ?_
              refine RO.opc (opv_move rfl) (fun h13 => ?_) (fun h13 => ?_)
              · try simp only [decide_eq_true_eq, decide_eq_false_iff_not, beq_iff_eq, beq_eq_false_iff_ne, bne_iff_ne, bne_eq_false_iff_eq, Int.not_lt, Int.not_le, ne_eq, Bool.not_eq_true', Bool.not_eq_false', gt_iff_lt, ge_iff_le] at h13
                refine RO.opgv (v' := .ref 3 0) rfl (opv_move rfl) rfl ?_
                refine RO.opgv (v' := .d (.int _ _)) rfl (opv_move rfl) rfl ?_
                refine RO.opgv (v' := .d (enc _)) rfl (opv_callF (let_fn (kv v)) rfl rfl rfl trivial) rfl ?_
                refine RO.opgn (v' := .d (enc _)) (O' := [_, _, _, _, _, _]) rfl (opv_callS 1 3 (wk_fn x.2 (lets (kv v)) (hok1.ends _)) rfl rfl rfl (Nat.le_of_ble_eq_true rfl) rfl (AV.bds_of_B _ rfl)) rfl rfl ?_
                refine RO.opgv (v' := .d (.int _ _)) rfl (opv_field_num rfl) rfl ?_
                refine RO.opgv (v' := .d (.int _ _)) rfl (opv_move rfl) rfl ?_
                refine RO.opgv (v' := .d (.bool _)) rfl (opv_bin rfl rfl rfl) rfl ?_
                refine RO.opv (v' := .d (.bool _)) (opv_pick rfl rfl) rfl ?_
                refine RO.opv (v' := .d (.bool _)) (opv_assign rfl) rfl ?_
                refine RO.nil ?_
                refine Runs.has [(4, .ref 0 0), (7, .d (.bool true)), (8, .ref 3 0), (10, .ref 4 0), (12, .ref 5 0), (13, .d (.int _ _)), (14, .d (.list (ints _))), (17, .d (.int _ _)), (18, .d (.bool _))] ⟨rfl, rfl, rfl, rfl, rfl, rfl, rfl, rfl, rfl, trivial⟩ ?_
                refine Runs.rseq ?_
                refine RO.opv (v' := .d (.bool true)) (opv_move rfl) rfl ?_
                refine RO.opv (v' := .d (.bool true)) (opv_move rfl) rfl ?_
                refine RO.opgv (v' := .d (.int _ _)) rfl (opv_move rfl) rfl ?_
                refine RO.opgv (v' := .d (.bool _)) rfl (opv_bin rfl rfl rfl) rfl ?_
                refine RO.opv (v' := .d (.bool _)) (opv_pick rfl rfl) rfl ?_
                refine RO.opc (opv_move rfl) (fun h14 => ?_) (fun h14 => ?_)
                · try simp only [decide_eq_true_eq, decide_eq_false_iff_not, beq_iff_eq, beq_eq_false_iff_ne, bne_iff_ne, bne_eq_false_iff_eq, Int.not_lt, Int.not_le, ne_eq, Bool.not_eq_true', Bool.not_eq_false', gt_iff_lt, ge_iff_le] at h14
                  refine RO.opgv (v' := .d (enc _)) rfl (opv_load_term rfl rfl rfl) rfl ?_
                  refine RO.opgv (v' := .d (enc _)) rfl (opv_load_term rfl rfl rfl) rfl ?_
                  refine RO.opgv (v' := .d (.bool _)) rfl (opv_callF (same_fn (x.2.full t).1 (x.2.full (x.2.full t).1).1 hfb (by rw [hff]; exact hfb)) rfl rfl rfl trivial) rfl ?_
                  refine RO.opv (v' := .d (.bool _)) (opv_pick rfl rfl) rfl ?_
                  refine RO.opc (opv_move rfl) (fun h15 => ?_) (fun h15 => ?_)
                  · try simp only [decide_eq_true_eq, decide_eq_false_iff_not, beq_iff_eq, beq_eq_false_iff_ne, bne_iff_ne, bne_eq_false_iff_eq, Int.not_lt, Int.not_le, ne_eq, Bool.not_eq_true', Bool.not_eq_false', gt_iff_lt, ge_iff_le] at h15
                    refine RO.opgv (v' := .d (.bool _)) rfl (opv_move rfl) rfl ?_
                    refine RO.opgv (v' := .d (.bool _)) rfl (opv_not rfl rfl) rfl ?_
                    refine RO.opgc rfl (opv_move rfl) (fun h16 => ?_) (fun h16 => ?_)
                    · try simp only [decide_eq_true_eq, decide_eq_false_iff_not, beq_iff_eq, beq_eq_false_iff_ne, bne_iff_ne, bne_eq_false_iff_eq, Int.not_lt, Int.not_le, ne_eq, Bool.not_eq_true', Bool.not_eq_false', gt_iff_lt, ge_iff_le] at h16
                      refine RO.off rfl ?_
                      refine RO.off rfl ?_
                      refine RO.off rfl ?_
                      refine RO.off rfl ?_
                      refine RO.off rfl ?_
                      refine RO.off rfl ?_
                      refine RO.off rfl ?_
                      refine RO.off rfl ?_
                      refine RO.opgv (v' := .d (.bool true)) rfl (opv_pick rfl rfl) rfl ?_
                      refine RO.opv (v' := .d (.bool true)) (opv_pick rfl rfl) rfl ?_
                      refine RO.opv (v' := .d (.bool true)) (opv_assign rfl) rfl ?_
                      refine RO.nil ?_
                      refine Runs.ret ?_
                      refine EndQ.tmp (.inr rfl) rfl rfl 0 (by exact Nat.le_refl _) (by exact Nat.zero_le _) trivial ⟨?_, rfl⟩
                      first
                        | rfl
                        | (refine bool_eq ?_; rw [full_zero he]; rfl)
                        | (refine bool_eq ?_
                           have hfr : x.2.at (kv v) = none := by
                             have hE := hok1.ends (lets (kv v))
                             rw [look_at] at hE
                             simp_all
                           rw [occ_has hok1 hov hfr (alone_okv (check_zero.1 hc).2.2) hF]; simp)
                    · try simp only [decide_eq_true_eq, decide_eq_false_iff_not, beq_iff_eq, beq_eq_false_iff_ne, bne_iff_ne, bne_eq_false_iff_eq, Int.not_lt, Int.not_le, ne_eq, Bool.not_eq_true', Bool.not_eq_false', gt_iff_lt, ge_iff_le] at h16
                      refine RO.opgv (v' := .ref 3 0) rfl (opv_move rfl) rfl ?_
                      refine RO.opgv (v' := .d (enc _)) rfl (opv_load_term rfl rfl rfl) rfl ?_
                      refine RO.opgv (v' := .d (.int _ _)) rfl (opv_move rfl) rfl ?_
                      refine RO.opgn (v' := .d (.bool _)) (O' := [_, _, _, _, _, _]) rfl (opv_callS 1 3 (has_store_fn x.2 t (kv v) (hok1.small' (Nat.le_of_ble_eq_true rfl)) (by omega)) rfl rfl rfl (Nat.le_of_ble_eq_true rfl) rfl (AV.bds_of_B _ rfl)) rfl rfl ?_
                      refine RO.opgv (v' := .d (.list (ints _))) rfl (opv_move rfl) rfl ?_
                      refine RO.opgv (v' := .d (.int _ _)) rfl (opv_move rfl) rfl ?_
                      refine RO.opgv (v' := .d (.bool _)) rfl (opv_callF (has_fn (x.2.full t).1.vars (kv v) (by have := vars_size (x.2.full t).1; omega)) rfl rfl rfl trivial) rfl ?_
                      refine RO.opgv (v' := .d (.bool _)) rfl (opv_bool rfl rfl rfl) rfl ?_
                      refine RO.opgv (v' := .d (.bool _)) rfl (opv_pick rfl rfl) rfl ?_
                      refine RO.opv (v' := .d (.bool _)) (opv_pick rfl rfl) rfl ?_
                      refine RO.opv (v' := .d (.bool _)) (opv_assign rfl) rfl ?_
                      refine RO.nil ?_
                      refine Runs.ret ?_
                      refine EndQ.tmp (.inr rfl) rfl rfl 0 (by exact Nat.le_refl _) (by exact Nat.zero_le _) trivial ⟨?_, rfl⟩
                      first
                        | rfl
                        | (refine bool_eq ?_; rw [full_zero he]; rfl)
                        | (refine bool_eq ?_
                           have hfr : x.2.at (kv v) = none := by
                             have hE := hok1.ends (lets (kv v))
                             rw [look_at] at hE
                             simp_all
                           rw [occ_has hok1 hov hfr (alone_okv (check_zero.1 hc).2.2) hF]; simp)
                  · try simp only [decide_eq_true_eq, decide_eq_false_iff_not, beq_iff_eq, beq_eq_false_iff_ne, bne_iff_ne, bne_eq_false_iff_eq, Int.not_lt, Int.not_le, ne_eq, Bool.not_eq_true', Bool.not_eq_false', gt_iff_lt, ge_iff_le] at h15
                    rw [hff, same_refl] at h15; cases h15
                · try simp only [decide_eq_true_eq, decide_eq_false_iff_not, beq_iff_eq, beq_eq_false_iff_ne, bne_iff_ne, bne_eq_false_iff_eq, Int.not_lt, Int.not_le, ne_eq, Bool.not_eq_true', Bool.not_eq_false', gt_iff_lt, ge_iff_le] at h14
                  rw [hff] at h14; exact absurd rfl h14
              · try simp only [decide_eq_true_eq, decide_eq_false_iff_not, beq_iff_eq, beq_eq_false_iff_ne, bne_iff_ne, bne_eq_false_iff_eq, Int.not_lt, Int.not_le, ne_eq, Bool.not_eq_true', Bool.not_eq_false', gt_iff_lt, ge_iff_le] at h13
                refine RO.off rfl ?_
                refine RO.off rfl ?_
                refine RO.off rfl ?_
                refine RO.off rfl ?_
                refine RO.off rfl ?_
                refine RO.off rfl ?_
                refine RO.off rfl ?_
                refine RO.opv (v' := .d (.bool false)) (opv_pick rfl rfl) rfl ?_
                refine RO.opv (v' := .d (.bool false)) (opv_assign rfl) rfl ?_
                refine RO.nil ?_
                refine Runs.has [(4, .ref 0 0), (7, .d (.bool true)), (8, .ref 3 0), (10, .ref 4 0), (12, .ref 5 0), (13, .d (.int _ _)), (14, .d (.list (ints _))), (17, .d (.int _ _)), (18, .d (.bool false))] ⟨rfl, rfl, rfl, rfl, rfl, rfl, rfl, rfl, rfl, trivial⟩ ?_
                refine Runs.rseq ?_
                refine RO.opv (v' := .d (.bool true)) (opv_move rfl) rfl ?_
                refine RO.opv (v' := .d (.bool true)) (opv_move rfl) rfl ?_
                refine RO.opgv (v' := .d (.int _ _)) rfl (opv_move rfl) rfl ?_
                refine RO.opgv (v' := .d (.bool _)) rfl (opv_bin rfl rfl rfl) rfl ?_
                refine RO.opv (v' := .d (.bool _)) (opv_pick rfl rfl) rfl ?_
                refine RO.opc (opv_move rfl) (fun h17 => ?_) (fun h17 => ?_)
                · try simp only [decide_eq_true_eq, decide_eq_false_iff_not, beq_iff_eq, beq_eq_false_iff_ne, bne_iff_ne, bne_eq_false_iff_eq, Int.not_lt, Int.not_le, ne_eq, Bool.not_eq_true', Bool.not_eq_false', gt_iff_lt, ge_iff_le] at h17
                  refine RO.opgv (v' := .d (enc _)) rfl (opv_load_term rfl rfl rfl) rfl ?_
                  refine RO.opgv (v' := .d (enc _)) rfl (opv_load_term rfl rfl rfl) rfl ?_
                  refine RO.opgv (v' := .d (.bool _)) rfl (opv_callF (same_fn (x.2.full t).1 (x.2.full (x.2.full t).1).1 hfb (by rw [hff]; exact hfb)) rfl rfl rfl trivial) rfl ?_
                  refine RO.opv (v' := .d (.bool _)) (opv_pick rfl rfl) rfl ?_
                  refine RO.opc (opv_move rfl) (fun h18 => ?_) (fun h18 => ?_)
                  · try simp only [decide_eq_true_eq, decide_eq_false_iff_not, beq_iff_eq, beq_eq_false_iff_ne, bne_iff_ne, bne_eq_false_iff_eq, Int.not_lt, Int.not_le, ne_eq, Bool.not_eq_true', Bool.not_eq_false', gt_iff_lt, ge_iff_le] at h18
                    refine RO.opgv (v' := .d (.bool false)) rfl (opv_move rfl) rfl ?_
                    refine RO.opgv (v' := .d (.bool true)) rfl (opv_not rfl rfl) rfl ?_
                    refine RO.opgv (v' := .d (.bool true)) rfl (opv_move rfl) rfl ?_
                    refine RO.off rfl ?_
                    refine RO.off rfl ?_
                    refine RO.off rfl ?_
                    refine RO.off rfl ?_
                    refine RO.off rfl ?_
                    refine RO.off rfl ?_
                    refine RO.off rfl ?_
                    refine RO.off rfl ?_
                    refine RO.opgv (v' := .d (.bool true)) rfl (opv_pick rfl rfl) rfl ?_
                    refine RO.opv (v' := .d (.bool true)) (opv_pick rfl rfl) rfl ?_
                    refine RO.opv (v' := .d (.bool true)) (opv_assign rfl) rfl ?_
                    refine RO.nil ?_
                    refine Runs.ret ?_
                    refine EndQ.tmp (.inr rfl) rfl rfl 0 (by exact Nat.le_refl _) (by exact Nat.zero_le _) trivial ⟨?_, rfl⟩
                    first
                      | rfl
                      | (refine bool_eq ?_; rw [full_zero he]; rfl)
                      | (refine bool_eq ?_
                         have hfr : x.2.at (kv v) = none := by
                           have hE := hok1.ends (lets (kv v))
                           rw [look_at] at hE
                           simp_all
                         rw [occ_has hok1 hov hfr (alone_okv (check_zero.1 hc).2.2) hF]; simp)
                  · try simp only [decide_eq_true_eq, decide_eq_false_iff_not, beq_iff_eq, beq_eq_false_iff_ne, bne_iff_ne, bne_eq_false_iff_eq, Int.not_lt, Int.not_le, ne_eq, Bool.not_eq_true', Bool.not_eq_false', gt_iff_lt, ge_iff_le] at h18
                    rw [hff, same_refl] at h18; cases h18
                · try simp only [decide_eq_true_eq, decide_eq_false_iff_not, beq_iff_eq, beq_eq_false_iff_ne, bne_iff_ne, bne_eq_false_iff_eq, Int.not_lt, Int.not_le, ne_eq, Bool.not_eq_true', Bool.not_eq_false', gt_iff_lt, ge_iff_le] at h17
                  rw [hff] at h17; exact absurd rfl h17
    · try simp only [decide_eq_true_eq, decide_eq_false_iff_not, beq_iff_eq, beq_eq_false_iff_ne, bne_iff_ne, bne_eq_false_iff_eq, Int.not_lt, Int.not_le, ne_eq, Bool.not_eq_true', Bool.not_eq_false', gt_iff_lt, ge_iff_le] at h2
      skip
      refine RO.off rfl ?_
      refine RO.off rfl ?_
      refine RO.opv (v' := .d (.bool false)) (opv_pick rfl rfl) rfl ?_
      refine RO.nil ?_
      refine Runs.condF rfl ?_
      refine Runs.exit ?_
      refine thenQ_exit ?_
      refine thenQ_exit ?_
      refine blockQ_here ?_
      refine thenQ_normal ?_
      refine Runs.has [(2, .d (.int _ _)), (4, .ref 0 0), (6, .d (.bool false)), (7, .d (.bool true)), (8, .ref 3 0)] ⟨rfl, rfl, rfl, rfl, rfl, trivial⟩ ?_
      have hok1 := hi.2.2.1
      have hov := hi.2.2.2
      have hfb := full_bulk (t := t) hok1.small (by omega)
      refine Runs.rseq ?_
      refine RO.opv (v' := .ref 3 0) (opv_move rfl) rfl ?_
      refine RO.opv (v' := .d (enc _)) (opv_load_term rfl rfl rfl) rfl ?_
      refine RO.opn (O' := [_, _, _, _]) (opv_callS 1 3 (full_fn x.2 t (hok1.small' (Nat.le_of_ble_eq_true rfl)) hok1.ends (by omega)) rfl rfl rfl (Nat.le_of_ble_eq_true rfl) rfl (AV.bds_of_B _ rfl)) rfl rfl ?_
      refine RO.opv (opv_move rfl) rfl ?_
      refine RO.opv (v' := .d (enc _)) (opv_extract rfl rfl) rfl ?_
      refine RO.opv (v' := .d (.int _ _)) (opv_extract rfl rfl) rfl ?_
      refine RO.opn (v' := .ref 4 0) (O' := [_, _, _, _, _]) (opv_alloc) rfl rfl ?_
      refine RO.op0n (O' := [_, _, _, _, _]) (opv_store_term rfl rfl rfl (Nat.le_of_ble_eq_true rfl)) rfl ?_
      refine RO.opv (v' := .d (.int _ _)) (opv_assign rfl) rfl ?_
      refine RO.nil ?_
      refine Runs.has [(2, .d (.int _ _)), (4, .ref 0 0), (6, .d (.bool false)), (7, .d (.bool true)), (8, .ref 3 0), (10, .ref 4 0), (11, .d (.int _ _))] ⟨rfl, rfl, rfl, rfl, rfl, rfl, rfl, trivial⟩ ?_
      refine Runs.seq ?_
      refine Runs.rseq ?_
      refine RO.opv (v' := .d (.int _ _)) (opv_move rfl) rfl ?_
      refine RO.opv (v' := .d (.bool _)) (opv_bin rfl rfl rfl) rfl ?_
      refine RO.opc (opv_move rfl) (fun h19 => ?_) (fun h19 => ?_)
      · try simp only [decide_eq_true_eq, decide_eq_false_iff_not, beq_iff_eq, beq_eq_false_iff_ne, bne_iff_ne, bne_eq_false_iff_eq, Int.not_lt, Int.not_le, ne_eq, Bool.not_eq_true', Bool.not_eq_false', gt_iff_lt, ge_iff_le] at h19
        have he := h19
        refine RO.off rfl ?_
        refine RO.off rfl ?_
        refine RO.off rfl ?_
        refine RO.opv (v' := .d (.bool true)) (opv_pick rfl rfl) rfl ?_
        refine RO.nil ?_
        refine Runs.condT rfl ?_
        refine Runs.has [(2, .d (.int _ _)), (4, .ref 0 0), (6, .d (.bool false)), (7, .d (.bool true)), (8, .ref 3 0), (10, .ref 4 0), (11, .d (.int _ _))] ⟨rfl, rfl, rfl, rfl, rfl, rfl, rfl, trivial⟩ ?_
        refine Runs.rseq ?_
        refine RO.opv (v' := .d (.bool true)) (opv_move rfl) rfl ?_
        refine RO.opv (v' := .d (.bool true)) (opv_move rfl) rfl ?_
        refine RO.opgv (v' := .d (.int _ _)) rfl (opv_move rfl) rfl ?_
        refine RO.opgv (v' := .d (.bool _)) rfl (opv_bin rfl rfl rfl) rfl ?_
        refine RO.opgc rfl (opv_move rfl) (fun h20 => ?_) (fun h20 => ?_)
        · try simp only [decide_eq_true_eq, decide_eq_false_iff_not, beq_iff_eq, beq_eq_false_iff_ne, bne_iff_ne, bne_eq_false_iff_eq, Int.not_lt, Int.not_le, ne_eq, Bool.not_eq_true', Bool.not_eq_false', gt_iff_lt, ge_iff_le] at h20
          exact absurd h20 he
        · try simp only [decide_eq_true_eq, decide_eq_false_iff_not, beq_iff_eq, beq_eq_false_iff_ne, bne_iff_ne, bne_eq_false_iff_eq, Int.not_lt, Int.not_le, ne_eq, Bool.not_eq_true', Bool.not_eq_false', gt_iff_lt, ge_iff_le] at h20
          refine RO.opgv (v' := .ref 4 0) rfl (opv_field_ref rfl rfl) rfl ?_
          refine RO.opgv (v' := .d (.int _ _)) rfl (opv_load_ref rfl rfl rfl) rfl ?_
          refine RO.opgv (v' := .d (.bool _)) rfl (opv_bin rfl rfl rfl) rfl ?_
          refine RO.opgv (v' := .d (.bool _)) rfl (opv_pick rfl rfl) rfl ?_
          refine RO.opv (v' := .d (.bool _)) (opv_pick rfl rfl) rfl ?_
          refine RO.opv (v' := .d (.bool _)) (opv_assign rfl) rfl ?_
          refine RO.nil ?_
          refine Runs.ret ?_
          refine thenQ_ret ?_
          refine EndQ.tmp (.inr rfl) rfl rfl 0 (by exact Nat.le_refl _) (by exact Nat.zero_le _) trivial ⟨?_, rfl⟩
          first
            | rfl
            | (refine bool_eq ?_; rw [full_zero he]; rfl)
            | (refine bool_eq ?_
               have hfr : x.2.at (kv v) = none := by
                 have hE := hok1.ends (lets (kv v))
                 rw [look_at] at hE
                 simp_all
               rw [occ_has hok1 hov hfr (alone_okv (check_zero.1 hc).2.2) hF]; simp)
      · try simp only [decide_eq_true_eq, decide_eq_false_iff_not, beq_iff_eq, beq_eq_false_iff_ne, bne_iff_ne, bne_eq_false_iff_eq, Int.not_lt, Int.not_le, ne_eq, Bool.not_eq_true', Bool.not_eq_false', gt_iff_lt, ge_iff_le] at h19
        have he : (x.2.full t).2 = 0 := by omega
        refine RO.opgv (v' := .d (enc _)) rfl (opv_load_term rfl rfl rfl) rfl ?_
        refine RO.opgv (v' := .d (.int _ _)) rfl (opv_callF (check_fn t 16 (by omega)) rfl rfl rfl trivial) rfl ?_
        refine RO.opgv (v' := .d (.bool _)) rfl (opv_bin rfl rfl rfl) rfl ?_
        refine RO.opc (opv_pick rfl rfl) (fun h21 => ?_) (fun h21 => ?_)
        · try simp only [decide_eq_true_eq, decide_eq_false_iff_not, beq_iff_eq, beq_eq_false_iff_ne, bne_iff_ne, bne_eq_false_iff_eq, Int.not_lt, Int.not_le, ne_eq, Bool.not_eq_true', Bool.not_eq_false', gt_iff_lt, ge_iff_le] at h21
          have hc := h21
          refine RO.nil ?_
          refine Runs.condT rfl ?_
          refine Runs.has [(2, .d (.int _ _)), (4, .ref 0 0), (6, .d (.bool false)), (7, .d (.bool true)), (8, .ref 3 0), (10, .ref 4 0), (11, .d (.int _ _))] ⟨rfl, rfl, rfl, rfl, rfl, rfl, rfl, trivial⟩ ?_
          refine Runs.rseq ?_
          refine RO.opv (v' := .d (.bool true)) (opv_move rfl) rfl ?_
          refine RO.opv (v' := .d (.bool true)) (opv_move rfl) rfl ?_
          refine RO.opgv (v' := .d (.int _ _)) rfl (opv_move rfl) rfl ?_
          refine RO.opgv (v' := .d (.bool _)) rfl (opv_bin rfl rfl rfl) rfl ?_
          refine RO.opgc rfl (opv_move rfl) (fun h22 => ?_) (fun h22 => ?_)
          · try simp only [decide_eq_true_eq, decide_eq_false_iff_not, beq_iff_eq, beq_eq_false_iff_ne, bne_iff_ne, bne_eq_false_iff_eq, Int.not_lt, Int.not_le, ne_eq, Bool.not_eq_true', Bool.not_eq_false', gt_iff_lt, ge_iff_le] at h22
            refine RO.off rfl ?_
            refine RO.off rfl ?_
            refine RO.off rfl ?_
            refine RO.opgv (v' := .d (.bool true)) rfl (opv_pick rfl rfl) rfl ?_
            refine RO.opv (v' := .d (.bool true)) (opv_pick rfl rfl) rfl ?_
            refine RO.opv (v' := .d (.bool true)) (opv_assign rfl) rfl ?_
            refine RO.nil ?_
            refine Runs.ret ?_
            refine thenQ_ret ?_
            refine EndQ.tmp (.inr rfl) rfl rfl 0 (by exact Nat.le_refl _) (by exact Nat.zero_le _) trivial ⟨?_, rfl⟩
            first
              | rfl
              | (refine bool_eq ?_; rw [full_zero he]; rfl)
              | (refine bool_eq ?_
                 have hfr : x.2.at (kv v) = none := by
                   have hE := hok1.ends (lets (kv v))
                   rw [look_at] at hE
                   simp_all
                 rw [occ_has hok1 hov hfr (alone_okv (check_zero.1 hc).2.2) hF]; simp)
          · try simp only [decide_eq_true_eq, decide_eq_false_iff_not, beq_iff_eq, beq_eq_false_iff_ne, bne_iff_ne, bne_eq_false_iff_eq, Int.not_lt, Int.not_le, ne_eq, Bool.not_eq_true', Bool.not_eq_false', gt_iff_lt, ge_iff_le] at h22
            exact absurd he h22
        · try simp only [decide_eq_true_eq, decide_eq_false_iff_not, beq_iff_eq, beq_eq_false_iff_ne, bne_iff_ne, bne_eq_false_iff_eq, Int.not_lt, Int.not_le, ne_eq, Bool.not_eq_true', Bool.not_eq_false', gt_iff_lt, ge_iff_le] at h21
          have hc : t.check 16 = 0 := by omega
          obtain ⟨hF, hd, hz, _⟩ := full_spec hok1.small g2 he
          have hff : x.2.full (x.2.full t).1 = ((x.2.full t).1, 0) := full_of (fil_self hok1.ends _ _ hF) hd hz
          have hvl := vars_size (x.2.full t).1
          refine RO.nil ?_
          refine Runs.condF rfl ?_
          refine Runs.skip ?_
          refine thenQ_normal ?_
          refine Runs.has [(2, .d (.int _ _)), (4, .ref 0 0), (6, .d (.bool false)), (7, .d (.bool true)), (8, .ref 3 0), (10, .ref 4 0)] ⟨rfl, rfl, rfl, rfl, rfl, rfl, trivial⟩ ?_
          refine Runs.rseq ?_
          refine RO.opv (v' := .ref 3 0) (opv_move rfl) rfl ?_
          refine RO.opv (v' := .d (enc _)) (opv_load_term rfl rfl rfl) rfl ?_
          refine RO.opn (O' := [_, _, _, _, _]) (opv_callS 1 3 (full_fn x.2 (x.2.full t).1 (hok1.small' (Nat.le_of_ble_eq_true rfl)) hok1.ends hfb) rfl rfl rfl (Nat.le_of_ble_eq_true rfl) rfl (AV.bds_of_B _ rfl)) rfl rfl ?_
          refine RO.opv (opv_move rfl) rfl ?_
          refine RO.opv (v' := .d (enc _)) (opv_extract rfl rfl) rfl ?_
          refine RO.opv (v' := .d (.int _ _)) (opv_extract rfl rfl) rfl ?_
          refine RO.opn (v' := .ref 5 0) (O' := [_, _, _, _, _, _]) (opv_alloc) rfl rfl ?_
          refine RO.op0n (O' := [_, _, _, _, _, _]) (opv_store_term rfl rfl rfl (Nat.le_of_ble_eq_true rfl)) rfl ?_
          refine RO.opv (v' := .d (.int _ _)) (opv_assign rfl) rfl ?_
          refine RO.nil ?_
          refine Runs.has [(2, .d (.int _ _)), (4, .ref 0 0), (6, .d (.bool false)), (7, .d (.bool true)), (8, .ref 3 0), (10, .ref 4 0), (12, .ref 5 0), (13, .d (.int _ _))] ⟨rfl, rfl, rfl, rfl, rfl, rfl, rfl, rfl, trivial⟩ ?_
          refine Runs.rseq ?_
          refine RO.opv (v' := .d (enc _)) (opv_load_term rfl rfl rfl) rfl ?_
          refine RO.opv (v' := .d (.list (ints _))) (opv_callF (vars_fn (x.2.full t).1 hfb) rfl rfl rfl trivial) rfl ?_
          refine RO.opv (v' := .d (.list (ints _))) (opv_assign rfl) rfl ?_
          refine RO.nil ?_
          refine Runs.has [(2, .d (.int _ _)), (4, .ref 0 0), (6, .d (.bool false)), (7, .d (.bool true)), (8, .ref 3 0), (10, .ref 4 0), (12, .ref 5 0), (13, .d (.int _ _)), (14, .d (.list (ints _)))] ⟨rfl, rfl, rfl, rfl, rfl, rfl, rfl, rfl, rfl, trivial⟩ ?_
          refine Runs.seq ?_
          refine Runs.rseq ?_
          refine RO.opv (v' := .d (.int _ _)) (opv_assign rfl) rfl ?_
          refine RO.nil ?_
          refine Runs.block ?_
          refine Runs.loopC (X := Nat) (fun i => i ≤ (x.2.full t).1.vars.length) (fun i => (x.2.full t).1.vars.length - i) [(2, .d (.int _ _)), (4, .ref 0 0), (7, .d (.bool true)), (8, .ref 3 0), (10, .ref 4 0), (12, .ref 5 0), (13, .d (.int _ _)), (14, .d (.list (ints _)))] (fun i => [(15, .d (.int .i64 (i : Nat)))]) [_, _, _, _, _, _] (fun i => []) (0) ⟨rfl, rfl, rfl, rfl, rfl, rfl, rfl, rfl, trivial⟩ ⟨rfl, trivial⟩ rfl (by omega) fun i hi2 => ?_
          refine Runs.seq ?_
          refine Runs.rseq ?_
          refine RO.opv (v' := .d (.int _ _)) (opv_move rfl) rfl ?_
          refine RO.opv (v' := .d (.list (ints _))) (opv_move rfl) rfl ?_
          refine RO.opv (v' := .d (.int _ _)) (opv_len_ints rfl) rfl ?_
          refine RO.opc (opv_bin rfl rfl rfl) (fun h23 => ?_) (fun h23 => ?_)
          · try simp only [decide_eq_true_eq, decide_eq_false_iff_not, beq_iff_eq, beq_eq_false_iff_ne, bne_iff_ne, bne_eq_false_iff_eq, Int.not_lt, Int.not_le, ne_eq, Bool.not_eq_true', Bool.not_eq_false', gt_iff_lt, ge_iff_le] at h23
            have hk5 : i < (x.2.full t).1.vars.length := by omega
            obtain ⟨p, hp1, hp2, hp3⟩ := (mem_vars _ _).1 (List.getElem_mem hk5)
            have hp4 := fil_free hok1.ends _ _ hF p hp1
            have hw : x.2.wk (lets ((x.2.full t).1.vars[i]'hk5)) = lets ((x.2.full t).1.vars[i]'hk5) := wk_none (by rw [← hp4]; exact look_same hp2.symm hp3.symm)
            refine RO.nil ?_
            refine Runs.condT rfl ?_
            refine Runs.skip ?_
            refine thenQ_normal ?_
            refine Runs.has [(2, .d (.int _ _)), (4, .ref 0 0), (7, .d (.bool true)), (8, .ref 3 0), (10, .ref 4 0), (12, .ref 5 0), (13, .d (.int _ _)), (14, .d (.list (ints _))), (15, .d (.int _ _))] ⟨rfl, rfl, rfl, rfl, rfl, rfl, rfl, rfl, rfl, trivial⟩ ?_
            refine Runs.seq ?_
            refine Runs.block ?_
            refine Runs.rseq ?_
            refine RO.opv (v' := .ref 3 0) (opv_move rfl) rfl ?_
            refine RO.opv (v' := .d (.list (ints _))) (opv_move rfl) rfl ?_
            refine RO.opv (v' := .d (.int _ _)) (opv_move rfl) rfl ?_
            refine RO.opv (v' := .d (.ptr _)) (opv_index_ints rfl rfl (by omega)) rfl ?_
            refine RO.opv (v' := .d (.int _ _)) (opv_load_ptr rfl rfl) rfl ?_
            refine RO.opv (v' := .d (enc _)) (opv_callF (let_fn ((x.2.full t).1.vars[i]'hk5)) rfl rfl rfl trivial) rfl ?_
            refine RO.opn (v' := .d (enc _)) (O' := [_, _, _, _, _, _]) (opv_callS 1 3 (wk_fn x.2 (lets ((x.2.full t).1.vars[i]'hk5)) (hok1.ends _)) rfl rfl rfl (Nat.le_of_ble_eq_true rfl) rfl (AV.bds_of_B _ rfl)) rfl rfl ?_
            refine RO.opn (v' := .ref 6 0) (O' := [_, _, _, _, _, _, _]) (opv_alloc) rfl rfl ?_
            refine RO.op0n (O' := [_, _, _, _, _, _, _]) (opv_store_term rfl rfl rfl (Nat.le_of_ble_eq_true rfl)) rfl ?_
            refine RO.nil ?_
            refine Runs.has [(2, .d (.int _ _)), (4, .ref 0 0), (7, .d (.bool true)), (8, .ref 3 0), (10, .ref 4 0), (12, .ref 5 0), (13, .d (.int _ _)), (14, .d (.list (ints _))), (15, .d (.int _ _)), (16, .ref 6 0)] ⟨rfl, rfl, rfl, rfl, rfl, rfl, rfl, rfl, rfl, rfl, trivial⟩ ?_
            refine Runs.seq ?_
            refine Runs.drawn (by kernel_rfl) [] [false, false, false, false, false, false, false, false, false, false, false, false] [false, false, false, false, false, false, false, false, false, false, false, false] (by decide +kernel) ?_
            refine RD.opv (v' := .ref 6 0) (opv_field_ref rfl rfl) rfl ?_
            refine RD.opv (v' := .d (.int _ _)) (opv_load_ref rfl rfl rfl) rfl ?_
            refine RD.opv (v' := .d (.bool _)) (opv_bin rfl rfl rfl) rfl ?_
            refine RD.opc (opv_move rfl) (fun h24 => ?_) (fun h24 => ?_)
            · try simp only [decide_eq_true_eq, decide_eq_false_iff_not, beq_iff_eq, beq_eq_false_iff_ne, bne_iff_ne, bne_eq_false_iff_eq, Int.not_lt, Int.not_le, ne_eq, Bool.not_eq_true', Bool.not_eq_false', gt_iff_lt, ge_iff_le] at h24
              rw [hw] at h24; exact absurd rfl h24
            · try simp only [decide_eq_true_eq, decide_eq_false_iff_not, beq_iff_eq, beq_eq_false_iff_ne, bne_iff_ne, bne_eq_false_iff_eq, Int.not_lt, Int.not_le, ne_eq, Bool.not_eq_true', Bool.not_eq_false', gt_iff_lt, ge_iff_le] at h24
              refine RD.opgv (v' := .ref 6 1) rfl (opv_field_ref rfl rfl) rfl ?_
              refine RD.opgv (v' := .d (.int _ _)) rfl (opv_load_ref rfl rfl rfl) rfl ?_
              refine RD.opgv (v' := .d (.list (ints _))) rfl (opv_move rfl) rfl ?_
              refine RD.opgv (v' := .d (.int _ _)) rfl (opv_move rfl) rfl ?_
              refine RD.opgv (v' := .d (.ptr _)) rfl (opv_index_ints rfl rfl (by omega)) rfl ?_
              refine RD.opgv (v' := .d (.int _ _)) rfl (opv_load_ptr rfl rfl) rfl ?_
              refine RD.opgv (v' := .d (.bool _)) rfl (opv_bin rfl rfl rfl) rfl ?_
              refine RD.opc (opv_pick rfl rfl) (fun h25 => ?_) (fun h25 => ?_)
              · try simp only [decide_eq_true_eq, decide_eq_false_iff_not, beq_iff_eq, beq_eq_false_iff_ne, bne_iff_ne, bne_eq_false_iff_eq, Int.not_lt, Int.not_le, ne_eq, Bool.not_eq_true', Bool.not_eq_false', gt_iff_lt, ge_iff_le] at h25
                rw [hw] at h25; exact absurd rfl h25
              · try simp only [decide_eq_true_eq, decide_eq_false_iff_not, beq_iff_eq, beq_eq_false_iff_ne, bne_iff_ne, bne_eq_false_iff_eq, Int.not_lt, Int.not_le, ne_eq, Bool.not_eq_true', Bool.not_eq_false', gt_iff_lt, ge_iff_le] at h25
                refine RD.nil ?_
                refine thenQ_normal ?_
                refine Runs.condF rfl ?_
                refine Runs.skip ?_
                refine blockQ_normal ?_
                refine thenQ_normal ?_
                refine Runs.has [(2, .d (.int _ _)), (4, .ref 0 0), (7, .d (.bool true)), (8, .ref 3 0), (10, .ref 4 0), (12, .ref 5 0), (13, .d (.int _ _)), (14, .d (.list (ints _))), (15, .d (.int _ _))] ⟨rfl, rfl, rfl, rfl, rfl, rfl, rfl, rfl, rfl, trivial⟩ ?_
                refine Runs.region ?_
                refine RO.opv (v' := .d (.int _ _)) (opv_move rfl) rfl ?_
                refine RO.opv (v' := .d (.int _ _)) (opv_arith rfl rfl (binD_add (r := ((i + 1 : Nat) : Int)) (by refine (wrap64 ?_ ?_).trans ?_ <;> omega))) rfl ?_
                refine RO.opv (v' := .d (.int _ _)) (opv_assign rfl) rfl ?_
                refine RO.nil ?_
                refine thenQ_normal ?_
                refine ⟨i + 1, 6, (by rw [hK]; exact Nat.le_of_ble_eq_true rfl), ⟨rfl, rfl, rfl, rfl, rfl, rfl, rfl, rfl, trivial⟩, ⟨?_, trivial⟩, rfl, ?_, ?_⟩
                · rfl
                · omega
                · omega
          · try simp only [decide_eq_true_eq, decide_eq_false_iff_not, beq_iff_eq, beq_eq_false_iff_ne, bne_iff_ne, bne_eq_false_iff_eq, Int.not_lt, Int.not_le, ne_eq, Bool.not_eq_true', Bool.not_eq_false', gt_iff_lt, ge_iff_le] at h23
            skip
            refine RO.nil ?_
            refine Runs.condF rfl ?_
            refine Runs.exit ?_
            refine thenQ_exit ?_
            refine thenQ_exit ?_
            refine blockQ_here ?_
            refine thenQ_normal ?_
            refine Runs.has [(2, .d (.int _ _)), (4, .ref 0 0), (7, .d (.bool true)), (8, .ref 3 0), (10, .ref 4 0), (12, .ref 5 0), (13, .d (.int _ _)), (14, .d (.list (ints _)))] ⟨rfl, rfl, rfl, rfl, rfl, rfl, rfl, rfl, trivial⟩ ?_
            refine Runs.rseq ?_
            refine RO.opv (v' := .d (.int _ _)) (opv_move rfl) rfl ?_
            refine RO.opv (v' := .d (.int _ _)) (opv_bin rfl rfl rfl) rfl ?_
            refine RO.opv (v' := .d (.int _ _)) (opv_conv rfl rfl) rfl ?_
            refine RO.opv (v' := .d (.int _ _)) (opv_assign (int_eq (kv_eq g3 g3'))) rfl ?_
            refine RO.nil ?_
            refine Runs.has [(4, .ref 0 0), (7, .d (.bool true)), (8, .ref 3 0), (10, .ref 4 0), (12, .ref 5 0), (13, .d (.int _ _)), (14, .d (.list (ints _))), (17, .d (.int _ _))] ⟨rfl, rfl, rfl, rfl, rfl, rfl, rfl, rfl, trivial⟩ ?_
            refine Runs.rseq ?_
            refine RO.opv (v' := .ref 3 0) (opv_move rfl) rfl ?_
            refine RO.opv (v' := .d (.int _ _)) (opv_move rfl) rfl ?_
            refine RO.opv (v' := .d (enc _)) (opv_callF (let_fn (kv v)) rfl rfl rfl trivial) rfl ?_
            refine RO.opn (v' := .d (enc _)) (O' := [_, _, _, _, _, _]) (opv_callS 1 3 (wk_fn x.2 (lets (kv v)) (hok1.ends _)) rfl rfl rfl (Nat.le_of_ble_eq_true rfl) rfl (AV.bds_of_B _ rfl)) rfl rfl ?_
            refine RO.opv (v' := .d (.int _ _)) (opv_field_kind rfl) rfl ?_
            refine RO.opv (v' := .d (.bool _)) (opv_bin rfl rfl rfl) rfl ?_
            refine RO.opc (opv_move rfl) (fun h26 => ?_) (fun h26 => ?_)
            · try simp only [decide_eq_true_eq, decide_eq_false_iff_not, beq_iff_eq, beq_eq_false_iff_ne, bne_iff_ne, bne_eq_false_iff_eq, Int.not_lt, Int.not_le, ne_eq, Bool.not_eq_true', Bool.not_eq_false', gt_iff_lt, ge_iff_le] at h26
              refine RO.opgv (v' := .ref 3 0) rfl (opv_move rfl) rfl ?_
              refine RO.opgv (v' := .d (.int _ _)) rfl (opv_move rfl) rfl ?_
              refine RO.opgv (v' := .d (enc _)) rfl (opv_callF (let_fn (kv v)) rfl rfl rfl trivial) rfl ?_
              refine RO.opgn (v' := .d (enc _)) (O' := [_, _, _, _, _, _]) rfl (opv_callS 1 3 (wk_fn x.2 (lets (kv v)) (hok1.ends _)) rfl rfl rfl (Nat.le_of_ble_eq_true rfl) rfl (AV.bds_of_B _ rfl)) rfl rfl ?_
              refine RO.opgv (v' := .d (.int _ _)) rfl (opv_field_num rfl) rfl ?_
              refine RO.opgv (v' := .d (.int _ _)) rfl (opv_move rfl) rfl ?_
              refine RO.opgv (v' := .d (.bool _)) rfl (opv_bin rfl rfl rfl) rfl ?_
              refine RO.opv (v' := .d (.bool _)) (opv_pick rfl rfl) rfl ?_
              refine RO.opv (v' := .d (.bool _)) (opv_assign rfl) rfl ?_
              refine RO.nil ?_
              refine Runs.has [(4, .ref 0 0), (7, .d (.bool true)), (8, .ref 3 0), (10, .ref 4 0), (12, .ref 5 0), (13, .d (.int _ _)), (14, .d (.list (ints _))), (17, .d (.int _ _)), (18, .d (.bool _))] ⟨rfl, rfl, rfl, rfl, rfl, rfl, rfl, rfl, rfl, trivial⟩ ?_
              refine Runs.rseq ?_
              refine RO.opv (v' := .d (.bool true)) (opv_move rfl) rfl ?_
              refine RO.opv (v' := .d (.bool true)) (opv_move rfl) rfl ?_
              refine RO.opgv (v' := .d (.int _ _)) rfl (opv_move rfl) rfl ?_
              refine RO.opgv (v' := .d (.bool _)) rfl (opv_bin rfl rfl rfl) rfl ?_
              refine RO.opv (v' := .d (.bool _)) (opv_pick rfl rfl) rfl ?_
              refine RO.opc (opv_move rfl) (fun h27 => ?_) (fun h27 => ?_)
              · try simp only [decide_eq_true_eq, decide_eq_false_iff_not, beq_iff_eq, beq_eq_false_iff_ne, bne_iff_ne, bne_eq_false_iff_eq, Int.not_lt, Int.not_le, ne_eq, Bool.not_eq_true', Bool.not_eq_false', gt_iff_lt, ge_iff_le] at h27
                refine RO.opgv (v' := .d (enc _)) rfl (opv_load_term rfl rfl rfl) rfl ?_
                refine RO.opgv (v' := .d (enc _)) rfl (opv_load_term rfl rfl rfl) rfl ?_
                refine RO.opgv (v' := .d (.bool _)) rfl (opv_callF (same_fn (x.2.full t).1 (x.2.full (x.2.full t).1).1 hfb (by rw [hff]; exact hfb)) rfl rfl rfl trivial) rfl ?_
                refine RO.opv (v' := .d (.bool _)) (opv_pick rfl rfl) rfl ?_
                refine RO.opc (opv_move rfl) (fun h28 => ?_) (fun h28 => ?_)
                · try simp only [decide_eq_true_eq, decide_eq_false_iff_not, beq_iff_eq, beq_eq_false_iff_ne, bne_iff_ne, bne_eq_false_iff_eq, Int.not_lt, Int.not_le, ne_eq, Bool.not_eq_true', Bool.not_eq_false', gt_iff_lt, ge_iff_le] at h28
                  refine RO.opgv (v' := .d (.bool _)) rfl (opv_move rfl) rfl ?_
                  refine RO.opgv (v' := .d (.bool _)) rfl (opv_not rfl rfl) rfl ?_
                  refine RO.opgc rfl (opv_move rfl) (fun h29 => ?_) (fun h29 => ?_)
                  · try simp only [decide_eq_true_eq, decide_eq_false_iff_not, beq_iff_eq, beq_eq_false_iff_ne, bne_iff_ne, bne_eq_false_iff_eq, Int.not_lt, Int.not_le, ne_eq, Bool.not_eq_true', Bool.not_eq_false', gt_iff_lt, ge_iff_le] at h29
                    refine RO.off rfl ?_
                    refine RO.off rfl ?_
                    refine RO.off rfl ?_
                    refine RO.off rfl ?_
                    refine RO.off rfl ?_
                    refine RO.off rfl ?_
                    refine RO.off rfl ?_
                    refine RO.off rfl ?_
                    refine RO.opgv (v' := .d (.bool true)) rfl (opv_pick rfl rfl) rfl ?_
                    refine RO.opv (v' := .d (.bool true)) (opv_pick rfl rfl) rfl ?_
                    refine RO.opv (v' := .d (.bool true)) (opv_assign rfl) rfl ?_
                    refine RO.nil ?_
                    refine Runs.ret ?_
                    refine EndQ.tmp (.inr rfl) rfl rfl 0 (by exact Nat.le_refl _) (by exact Nat.zero_le _) trivial ⟨?_, rfl⟩
                    first
                      | rfl
                      | (refine bool_eq ?_; rw [full_zero he]; rfl)
                      | (refine bool_eq ?_
                         have hfr : x.2.at (kv v) = none := by
                           have hE := hok1.ends (lets (kv v))
                           rw [look_at] at hE
                           simp_all
                         rw [occ_has hok1 hov hfr (alone_okv (check_zero.1 hc).2.2) hF]; simp)
                  · try simp only [decide_eq_true_eq, decide_eq_false_iff_not, beq_iff_eq, beq_eq_false_iff_ne, bne_iff_ne, bne_eq_false_iff_eq, Int.not_lt, Int.not_le, ne_eq, Bool.not_eq_true', Bool.not_eq_false', gt_iff_lt, ge_iff_le] at h29
                    refine RO.opgv (v' := .ref 3 0) rfl (opv_move rfl) rfl ?_
                    refine RO.opgv (v' := .d (enc _)) rfl (opv_load_term rfl rfl rfl) rfl ?_
                    refine RO.opgv (v' := .d (.int _ _)) rfl (opv_move rfl) rfl ?_
                    refine RO.opgn (v' := .d (.bool _)) (O' := [_, _, _, _, _, _]) rfl (opv_callS 1 3 (has_store_fn x.2 t (kv v) (hok1.small' (Nat.le_of_ble_eq_true rfl)) (by omega)) rfl rfl rfl (Nat.le_of_ble_eq_true rfl) rfl (AV.bds_of_B _ rfl)) rfl rfl ?_
                    refine RO.opgv (v' := .d (.list (ints _))) rfl (opv_move rfl) rfl ?_
                    refine RO.opgv (v' := .d (.int _ _)) rfl (opv_move rfl) rfl ?_
                    refine RO.opgv (v' := .d (.bool _)) rfl (opv_callF (has_fn (x.2.full t).1.vars (kv v) (by have := vars_size (x.2.full t).1; omega)) rfl rfl rfl trivial) rfl ?_
                    refine RO.opgv (v' := .d (.bool _)) rfl (opv_bool rfl rfl rfl) rfl ?_
                    refine RO.opgv (v' := .d (.bool _)) rfl (opv_pick rfl rfl) rfl ?_
                    refine RO.opv (v' := .d (.bool _)) (opv_pick rfl rfl) rfl ?_
                    refine RO.opv (v' := .d (.bool _)) (opv_assign rfl) rfl ?_
                    refine RO.nil ?_
                    refine Runs.ret ?_
                    refine EndQ.tmp (.inr rfl) rfl rfl 0 (by exact Nat.le_refl _) (by exact Nat.zero_le _) trivial ⟨?_, rfl⟩
                    first
                      | rfl
                      | (refine bool_eq ?_; rw [full_zero he]; rfl)
                      | (refine bool_eq ?_
                         have hfr : x.2.at (kv v) = none := by
                           have hE := hok1.ends (lets (kv v))
                           rw [look_at] at hE
                           simp_all
                         rw [occ_has hok1 hov hfr (alone_okv (check_zero.1 hc).2.2) hF]; simp)
                · try simp only [decide_eq_true_eq, decide_eq_false_iff_not, beq_iff_eq, beq_eq_false_iff_ne, bne_iff_ne, bne_eq_false_iff_eq, Int.not_lt, Int.not_le, ne_eq, Bool.not_eq_true', Bool.not_eq_false', gt_iff_lt, ge_iff_le] at h28
                  rw [hff, same_refl] at h28; cases h28
              · try simp only [decide_eq_true_eq, decide_eq_false_iff_not, beq_iff_eq, beq_eq_false_iff_ne, bne_iff_ne, bne_eq_false_iff_eq, Int.not_lt, Int.not_le, ne_eq, Bool.not_eq_true', Bool.not_eq_false', gt_iff_lt, ge_iff_le] at h27
                rw [hff] at h27; exact absurd rfl h27
            · try simp only [decide_eq_true_eq, decide_eq_false_iff_not, beq_iff_eq, beq_eq_false_iff_ne, bne_iff_ne, bne_eq_false_iff_eq, Int.not_lt, Int.not_le, ne_eq, Bool.not_eq_true', Bool.not_eq_false', gt_iff_lt, ge_iff_le] at h26
              refine RO.off rfl ?_
              refine RO.off rfl ?_
              refine RO.off rfl ?_
              refine RO.off rfl ?_
              refine RO.off rfl ?_
              refine RO.off rfl ?_
              refine RO.off rfl ?_
              refine RO.opv (v' := .d (.bool false)) (opv_pick rfl rfl) rfl ?_
              refine RO.opv (v' := .d (.bool false)) (opv_assign rfl) rfl ?_
              refine RO.nil ?_
              refine Runs.has [(4, .ref 0 0), (7, .d (.bool true)), (8, .ref 3 0), (10, .ref 4 0), (12, .ref 5 0), (13, .d (.int _ _)), (14, .d (.list (ints _))), (17, .d (.int _ _)), (18, .d (.bool false))] ⟨rfl, rfl, rfl, rfl, rfl, rfl, rfl, rfl, rfl, trivial⟩ ?_
              refine Runs.rseq ?_
              refine RO.opv (v' := .d (.bool true)) (opv_move rfl) rfl ?_
              refine RO.opv (v' := .d (.bool true)) (opv_move rfl) rfl ?_
              refine RO.opgv (v' := .d (.int _ _)) rfl (opv_move rfl) rfl ?_
              refine RO.opgv (v' := .d (.bool _)) rfl (opv_bin rfl rfl rfl) rfl ?_
              refine RO.opv (v' := .d (.bool _)) (opv_pick rfl rfl) rfl ?_
              refine RO.opc (opv_move rfl) (fun h30 => ?_) (fun h30 => ?_)
              · try simp only [decide_eq_true_eq, decide_eq_false_iff_not, beq_iff_eq, beq_eq_false_iff_ne, bne_iff_ne, bne_eq_false_iff_eq, Int.not_lt, Int.not_le, ne_eq, Bool.not_eq_true', Bool.not_eq_false', gt_iff_lt, ge_iff_le] at h30
                refine RO.opgv (v' := .d (enc _)) rfl (opv_load_term rfl rfl rfl) rfl ?_
                refine RO.opgv (v' := .d (enc _)) rfl (opv_load_term rfl rfl rfl) rfl ?_
                refine RO.opgv (v' := .d (.bool _)) rfl (opv_callF (same_fn (x.2.full t).1 (x.2.full (x.2.full t).1).1 hfb (by rw [hff]; exact hfb)) rfl rfl rfl trivial) rfl ?_
                refine RO.opv (v' := .d (.bool _)) (opv_pick rfl rfl) rfl ?_
                refine RO.opc (opv_move rfl) (fun h31 => ?_) (fun h31 => ?_)
                · try simp only [decide_eq_true_eq, decide_eq_false_iff_not, beq_iff_eq, beq_eq_false_iff_ne, bne_iff_ne, bne_eq_false_iff_eq, Int.not_lt, Int.not_le, ne_eq, Bool.not_eq_true', Bool.not_eq_false', gt_iff_lt, ge_iff_le] at h31
                  refine RO.opgv (v' := .d (.bool false)) rfl (opv_move rfl) rfl ?_
                  refine RO.opgv (v' := .d (.bool true)) rfl (opv_not rfl rfl) rfl ?_
                  refine RO.opgv (v' := .d (.bool true)) rfl (opv_move rfl) rfl ?_
                  refine RO.off rfl ?_
                  refine RO.off rfl ?_
                  refine RO.off rfl ?_
                  refine RO.off rfl ?_
                  refine RO.off rfl ?_
                  refine RO.off rfl ?_
                  refine RO.off rfl ?_
                  refine RO.off rfl ?_
                  refine RO.opgv (v' := .d (.bool true)) rfl (opv_pick rfl rfl) rfl ?_
                  refine RO.opv (v' := .d (.bool true)) (opv_pick rfl rfl) rfl ?_
                  refine RO.opv (v' := .d (.bool true)) (opv_assign rfl) rfl ?_
                  refine RO.nil ?_
                  refine Runs.ret ?_
                  refine EndQ.tmp (.inr rfl) rfl rfl 0 (by exact Nat.le_refl _) (by exact Nat.zero_le _) trivial ⟨?_, rfl⟩
                  first
                    | rfl
                    | (refine bool_eq ?_; rw [full_zero he]; rfl)
                    | (refine bool_eq ?_
                       have hfr : x.2.at (kv v) = none := by
                         have hE := hok1.ends (lets (kv v))
                         rw [look_at] at hE
                         simp_all
                       rw [occ_has hok1 hov hfr (alone_okv (check_zero.1 hc).2.2) hF]; simp)
                · try simp only [decide_eq_true_eq, decide_eq_false_iff_not, beq_iff_eq, beq_eq_false_iff_ne, bne_iff_ne, bne_eq_false_iff_eq, Int.not_lt, Int.not_le, ne_eq, Bool.not_eq_true', Bool.not_eq_false', gt_iff_lt, ge_iff_le] at h31
                  rw [hff, same_refl] at h31; cases h31
              · try simp only [decide_eq_true_eq, decide_eq_false_iff_not, beq_iff_eq, beq_eq_false_iff_ne, bne_iff_ne, bne_eq_false_iff_eq, Int.not_lt, Int.not_le, ne_eq, Bool.not_eq_true', Bool.not_eq_false', gt_iff_lt, ge_iff_le] at h30
                rw [hff] at h30; exact absurd rfl h30
theorem storeFulls_row (l : List Deed) (t : Term) (v : Int) (g1 : sumN (fun d => d.t.bulk) l ≤ 2 ^ 20) (_f1 : ∀ d ∈ l, d.t.fits) (g2 : t.bulk ≤ 2 ^ 20) (_f2 : t.fits) (g3 : 0 ≤ v) (g3' : v ≤ 255) : Fn Try.prog 7 [.d (.list (l.map encDeed)), .d (enc t), .d (.int .u8 v)] [] (.d (.bool true)) [] :=
  storeFulls_fn l t v (fun d hd => Nat.le_trans (sumN_mem (f := fun d : Deed => d.t.bulk) hd) g1) g2 g3 g3'
end Go.Proofs.Ythnhhgchmojcgaa.AM
