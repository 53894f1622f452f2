import Derived.Test.YtohncglpjiplaaaTn
import Derived.Test.YtohncglpjiplaaaC0
namespace Go.Proofs.Ytohncglpjiplaaa.AM
open Go
set_option linter.unusedVariables false
set_option linter.unusedSimpArgs false
theorem kids_aux (vs : List Int) (m : Nat) (ih : ∀ u : Term, u.size ≤ m → u.bulk ≤ 2 ^ 30 → Fn Try.prog 80 [.d (enc u), .mp 0] [.mapo (mints .i64 (mplace vs 0))] (.d (enc (u.put (fun n => placeOf vs n 0)))) [.mapo (mints .i64 (mplace vs 0))]) (t : Term) (hm : sizes t.kids ≤ m) (hb : t.bulk ≤ 2 ^ 30) : Fn Try.prog 83 [.d (enc t), .mp 0] [.mapo (mints .i64 (mplace vs 0))] (.d (.list (encs (puts (fun n => placeOf vs n 0) t.kids)))) [.mapo (mints .i64 (mplace vs 0))] := by
  have hU := t.bulk_kids
  have hL := bulks_len t.kids
  refine Does.run Try.func83 rfl Try.ntmps83 rfl fun K hK => ?_
  refine Runs.rseq ?_
  refine RO.opn (v' := .ref 1 0) (O' := [_, _]) (opv_box_term rfl) rfl rfl ?_
  refine RO.opv (v' := .nil0) (opv_assign rfl) rfl ?_
  refine RO.nil ?_
  refine Runs.has [(1, .mp 0), (2, .ref 1 0), (4, .nil0)] ⟨rfl, rfl, rfl, trivial⟩ ?_
  refine Runs.rseq ?_
  refine RO.opv (v' := .nil0) (opv_assign rfl) rfl ?_
  refine RO.nil ?_
  refine Runs.seq ?_
  refine Runs.adopt 5 47 4 rfl ?_
  refine Runs.rseq ?_
  refine RO.opv (v' := .ref 1 3) (opv_field_ref rfl rfl) rfl ?_
  refine RO.opv (v' := .d (.list (encs _))) (opv_load_ref rfl rfl rfl) rfl ?_
  refine RO.opv (v' := .d (.int _ _)) (opv_len_terms rfl) rfl ?_
  refine RO.opv (v' := .d (.int _ _)) (opv_move rfl) rfl ?_
  refine RO.nil ?_
  refine Runs.block ?_
  refine Runs.loopC (X := Nat) (fun i => i ≤ t.kids.length) (fun i => t.kids.length - i) [(1, .mp 0), (4, .nil0), (9, .d (.list (encs _))), (10, .d (.int _ _))] (fun i => [(5, .own 2 (1 + i)), (11, .d (.int .i64 (i : Nat)))]) [_, _] (fun i => [.buf 47 4 (encs (puts (fun n => placeOf vs n 0) (t.kids.take i))) (1 + i)]) (0) ⟨rfl, rfl, rfl, rfl, trivial⟩ ⟨rfl, rfl, trivial⟩ rfl (by omega) fun i hi => ?_
  refine Runs.rseq ?_
  refine RO.opc (opv_bin rfl rfl rfl) (fun h1 => ?_) (fun h1 => ?_)
  · try simp only [Z.a, Z.b, Z.c, Z.d, Z.e, Z.f, Z.g, Z.h, Z.i, Z.j, Z.k, Z.l, Z.m] at h1
    have hk : i < t.kids.length := by omega
    refine RO.nil ?_
    refine Runs.seq ?_
    refine Runs.condT rfl ?_
    refine Runs.skip ?_
    refine thenQ_normal ?_
    refine Runs.has [(1, .mp 0), (4, .nil0), (5, .own 2 _), (9, .d (.list (encs _))), (10, .d (.int _ _)), (11, .d (.int _ _))] ⟨rfl, rfl, rfl, rfl, rfl, rfl, trivial⟩ ?_
    refine Runs.seq ?_
    refine Runs.block ?_
    refine Runs.rseq ?_
    refine RO.opv (v' := .d (.ptr _)) (opv_index_terms rfl rfl (by omega)) rfl ?_
    refine RO.opv (v' := .d (enc _)) (opv_load_pterm rfl) rfl ?_
    refine RO.opn (v' := .ref 3 0) (O' := [_, _, _, _]) (opv_alloc) rfl rfl ?_
    refine RO.op0n (O' := [_, _, _, _]) (opv_store_term rfl rfl rfl (Nat.le_of_ble_eq_true rfl)) rfl ?_
    refine RO.nil ?_
    refine Runs.has [(1, .mp 0), (4, .nil0), (5, .own 2 _), (7, .ref 3 0), (9, .d (.list (encs _))), (10, .d (.int _ _)), (11, .d (.int _ _))] ⟨rfl, rfl, rfl, rfl, rfl, rfl, rfl, trivial⟩ ?_
    refine Runs.region ?_
    refine RO.opv (v' := .own 2 _) (opv_move rfl) rfl ?_
    refine RO.opv (v' := .d (enc _)) (opv_load_term rfl rfl rfl) rfl ?_
    refine RO.opv (v' := .mp 0) (opv_move rfl) rfl ?_
    refine RO.opn (v' := .d (enc _)) (O' := [_, _, _, _]) (opv_callP 1 (ih t.kids[i] (by have := sizes_mem (List.getElem_mem hk); omega) (by have := bulks_mem (List.getElem_mem hk); omega)) rfl rfl (Nat.le_of_ble_eq_true rfl) rfl (AV.bds_of_B _ rfl)) rfl rfl ?_
    refine RO.opv (v' := .d (.list (encs _))) (opv_bs_term1 rfl ) rfl ?_
    refine RO.opn (v' := .own 2 _) (O' := [_, _, _, _]) (opv_append_terms rfl rfl rfl (by rw [puts_len]; simp; omega)) rfl rfl ?_
    refine RO.opv (v' := .own 2 _) (opv_assign rfl) rfl ?_
    refine RO.nil ?_
    refine blockQ_normal ?_
    refine thenQ_normal ?_
    refine Runs.has [(1, .mp 0), (4, .nil0), (5, .own 2 _), (9, .d (.list (encs _))), (10, .d (.int _ _)), (11, .d (.int _ _))] ⟨rfl, rfl, rfl, rfl, rfl, rfl, trivial⟩ ?_
    refine Runs.region ?_
    refine RO.opv (v' := .d (.int _ _)) (opv_bin rfl rfl rfl) rfl ?_
    refine RO.opv (v' := .d (.int _ _)) (opv_move rfl) rfl ?_
    refine RO.nil ?_
    refine thenQ_normal ?_
    refine ⟨i+1, 3, (by rw [hK]; exact Nat.le_of_ble_eq_true rfl), ⟨rfl, rfl, rfl, rfl, trivial⟩, ⟨?_, ?_, trivial⟩, ?_, ?_, ?_⟩
    · rfl
    · refine int_eq ?_; rw [wrap64 (by omega) (by omega)]; omega
    · rw [puts_take hk]; rfl
    · omega
    · omega
  · try simp only [Z.a, Z.b, Z.c, Z.d, Z.e, Z.f, Z.g, Z.h, Z.i, Z.j, Z.k, Z.l, Z.m] at h1
    have hk : i = t.kids.length := by omega
    refine RO.nil ?_
    refine Runs.seq ?_
    refine Runs.condF rfl ?_
    refine Runs.exit ?_
    refine thenQ_exit ?_
    refine thenQ_exit ?_
    refine blockQ_here ?_
    refine thenQ_normal ?_
    refine Runs.has [(4, .nil0), (5, .own 2 _)] ⟨rfl, rfl, trivial⟩ ?_
    refine Runs.shut 5 rfl rfl ?_
    refine Runs.rseq ?_
    refine RO.opv (v' := .d (.list (encs _))) (opv_move rfl) rfl ?_
    refine RO.opv (v' := .d (.list (encs _))) (opv_assign rfl) rfl ?_
    refine RO.nil ?_
    refine Runs.ret ?_
    refine EndQ.tmp (.inr rfl) rfl rfl 1 (by exact Nat.le_refl _) (by simp) trivial ⟨?_, rfl⟩
    refine terms_eq ?_; rw [hk, List.take_length]
theorem put_aux (vs : List Int) : ∀ (m : Nat) (t : Term), t.size ≤ m → t.bulk ≤ 2 ^ 30 → Fn Try.prog 80 [.d (enc t), .mp 0] [.mapo (mints .i64 (mplace vs 0))] (.d (enc (t.put (fun n => placeOf vs n 0)))) [.mapo (mints .i64 (mplace vs 0))] := by
  intro m
  induction m with
  | zero => intro t h; have := t.size_kids; omega
  | succ m ih =>
  intro t hm hb
  have hS := t.size_kids
  refine Does.run Try.func80 rfl Try.ntmps80 rfl fun K hK => ?_
  refine Runs.rseq ?_
  refine RO.opn (v' := .ref 1 0) (O' := [_, _]) (opv_box_term rfl) rfl rfl ?_
  refine RO.opn (v' := .ref 2 0) (O' := [_, _, _]) (opv_alloc) rfl rfl ?_
  refine RO.nil ?_
  refine Runs.has [(1, .mp 0), (2, .ref 1 0), (4, .ref 2 0)] ⟨rfl, rfl, rfl, trivial⟩ ?_
  refine Runs.seq ?_
  refine Runs.rseq ?_
  refine RO.opv (v' := .ref 1 0) (opv_field_ref rfl rfl) rfl ?_
  refine RO.opv (v' := .d (.int _ _)) (opv_load_ref rfl rfl rfl) rfl ?_
  refine RO.opc (opv_bin rfl rfl rfl) (fun h1 => ?_) (fun h1 => ?_)
  · try simp only [Z.a, Z.b, Z.c, Z.d, Z.e, Z.f, Z.g, Z.h, Z.i, Z.j, Z.k, Z.l, Z.m] at h1
    refine RO.nil ?_
    refine Runs.condT rfl ?_
    refine Runs.has [(1, .mp 0), (2, .ref 1 0), (4, .ref 2 0)] ⟨rfl, rfl, rfl, trivial⟩ ?_
    refine Runs.seq ?_
    refine Runs.drawn (by kernel_rfl) [] [false, false, false, false, false, false, false, false, false, false, false] [false, false, false, false, false, false, false, false, false, false, true] (by decide +kernel) ?_
    refine RD.opv (v' := .mp 0) (opv_move rfl) rfl ?_
    refine RD.opv (v' := .ref 1 1) (opv_field_ref rfl rfl) rfl ?_
    refine RD.opv (v' := .d (.int _ _)) (opv_load_ref rfl rfl rfl) rfl ?_
    refine RD.opv (v' := .d (.int _ _)) (opv_lookup_place rfl rfl rfl) rfl ?_
    refine RD.opv (v' := .ref 1 2) (opv_field_ref rfl rfl) rfl ?_
    refine RD.opv (v' := .d (.str _)) (opv_load_ref rfl rfl rfl) rfl ?_
    refine RD.opv (v' := .d (enc _)) (opv_load_term rfl rfl rfl) rfl ?_
    refine RD.opv (v' := .mp 0) (opv_move rfl) rfl ?_
    refine RD.opq (v' := .d (.list (encs _))) (opv_callP 1 (kids_aux vs m ih t (by omega) hb) rfl rfl (Nat.le_of_ble_eq_true rfl) rfl (AV.bds_of_B _ rfl)) rfl rfl ?_
    refine RD.opv (v' := .d (enc _)) (opv_build_term rfl rfl) rfl ?_
    refine RD.op0n (O' := [_, _, _]) (opv_store_term rfl rfl rfl (Nat.le_of_ble_eq_true rfl)) rfl trivial ?_
    refine RD.nil ?_
    refine thenQ_normal ?_
    refine Runs.ret ?_
    refine thenQ_ret ?_
    refine EndQ.cell_term (.inr rfl) rfl rfl rfl rfl 1 (by exact Nat.le_refl _) (by simp) ⟨?_, rfl⟩
    refine term_eq ?_; rw [put_eq, if_pos h1, h1]
  · try simp only [Z.a, Z.b, Z.c, Z.d, Z.e, Z.f, Z.g, Z.h, Z.i, Z.j, Z.k, Z.l, Z.m] at h1
    refine RO.nil ?_
    refine Runs.condF rfl ?_
    refine Runs.skip ?_
    refine thenQ_normal ?_
    refine Runs.has [(1, .mp 0), (2, .ref 1 0), (4, .ref 2 0)] ⟨rfl, rfl, rfl, trivial⟩ ?_
    refine Runs.rseq ?_
    refine RO.opv (v' := .d (enc _)) (opv_load_term rfl rfl rfl) rfl ?_
    refine RO.opv (v' := .mp 0) (opv_move rfl) rfl ?_
    refine RO.opn (v' := .d (.list (encs _))) (O' := [_, _, _]) (opv_callP 1 (kids_aux vs m ih t (by omega) hb) rfl rfl (Nat.le_of_ble_eq_true rfl) rfl (AV.bds_of_B _ rfl)) rfl rfl ?_
    refine RO.opv (v' := .ref 1 3) (opv_field_ref rfl rfl) rfl ?_
    refine RO.op0n (O' := [_, _, _]) (opv_store_ref rfl rfl rfl rfl rfl (Nat.le_of_ble_eq_true rfl) rfl) rfl ?_
    refine RO.nil ?_
    refine Runs.has [(2, .ref 1 0), (4, .ref 2 0)] ⟨rfl, rfl, trivial⟩ ?_
    refine Runs.rseq ?_
    refine RO.opv (v' := .d (enc _)) (opv_load_node rfl rfl rfl rfl) rfl ?_
    refine RO.op0n (O' := [_, _, _]) (opv_store_term rfl rfl rfl (Nat.le_of_ble_eq_true rfl)) rfl ?_
    refine RO.nil ?_
    refine Runs.ret ?_
    refine EndQ.cell_term (.inr rfl) rfl rfl rfl rfl 1 (by exact Nat.le_refl _) (by simp) ⟨?_, rfl⟩
    refine term_eq ?_; rw [put_eq, if_neg h1]
theorem put_fn (vs : List Int) (t : Term) (hb : t.bulk ≤ 2 ^ 30) : Fn Try.prog 80 [.d (enc t), .mp 0] [.mapo (mints .i64 (mplace vs 0))] (.d (enc (t.put (fun n => placeOf vs n 0)))) [.mapo (mints .i64 (mplace vs 0))] := put_aux vs t.size t (Nat.le_refl _) hb
theorem norm_fn (t : Term) (hb : t.bulk ≤ 2 ^ 30) : Fn Try.prog 59 [.d (enc t)] [] (.tup [.d (enc t.norm), .d (.int .i64 t.vars.length)]) [] := by
  have hvs := vars_size t
  have hss := t.size_bulk
  have hnd := vars_nodup t
  refine Does.run Try.func59 rfl Try.ntmps59 rfl fun K hK => ?_
  refine Runs.rseq ?_
  refine RO.opn (v' := .ref 0 0) (O' := [_]) (opv_box_term rfl) rfl rfl ?_
  refine RO.opn (v' := .ref 1 0) (O' := [_, _]) (opv_alloc) rfl rfl ?_
  refine RO.opv (v' := .d (.int _ _)) (opv_assign rfl) rfl ?_
  refine RO.nil ?_
  refine Runs.has [(1, .ref 0 0), (2, .ref 1 0), (3, .d (.int _ _))] ⟨rfl, rfl, rfl, trivial⟩ ?_
  refine Runs.rseq ?_
  refine RO.opn (v' := .mp 2) (O' := [_, _, _]) (opv_makeMap) rfl rfl ?_
  refine RO.opv (v' := .mp 2) (opv_assign rfl) rfl ?_
  refine RO.nil ?_
  refine Runs.has [(1, .ref 0 0), (2, .ref 1 0), (3, .d (.int _ _)), (4, .mp 2)] ⟨rfl, rfl, rfl, rfl, trivial⟩ ?_
  refine Runs.seq ?_
  refine Runs.rseq ?_
  refine RO.opv (v' := .d (enc _)) (opv_load_term rfl rfl rfl) rfl ?_
  refine RO.opv (v' := .d (.list (ints _))) (opv_callF (vars_fn t hb) rfl rfl rfl trivial) rfl ?_
  refine RO.opv (v' := .d (.int _ _)) (opv_len_ints rfl) rfl ?_
  refine RO.opv (v' := .d (.int _ _)) (opv_move rfl) rfl ?_
  refine RO.nil ?_
  refine Runs.block ?_
  refine Runs.loopC (X := Nat) (fun i => i ≤ t.vars.length) (fun i => t.vars.length - i) [(1, .ref 0 0), (2, .ref 1 0), (3, .d (.int _ _)), (4, .mp 2), (9, .d (.list (ints _))), (10, .d (.int _ _))] (fun i => [(11, .d (.int .i64 (i : Nat)))]) [_, _] (fun i => [.mapo (mints .i64 (mplace (t.vars.take i) 0))]) (0) ⟨rfl, rfl, rfl, rfl, rfl, rfl, trivial⟩ ⟨rfl, trivial⟩ rfl (by omega) fun i hi => ?_
  refine Runs.rseq ?_
  refine RO.opc (opv_bin rfl rfl rfl) (fun h1 => ?_) (fun h1 => ?_)
  · try simp only [Z.a, Z.b, Z.c, Z.d, Z.e, Z.f, Z.g, Z.h, Z.i, Z.j, Z.k, Z.l, Z.m] at h1
    have hk : i < t.vars.length := by omega
    refine RO.nil ?_
    refine Runs.seq ?_
    refine Runs.condT rfl ?_
    refine Runs.skip ?_
    refine thenQ_normal ?_
    refine Runs.has [(1, .ref 0 0), (2, .ref 1 0), (3, .d (.int _ _)), (4, .mp 2), (9, .d (.list (ints _))), (10, .d (.int _ _)), (11, .d (.int _ _))] ⟨rfl, rfl, rfl, rfl, rfl, rfl, rfl, trivial⟩ ?_
    refine Runs.seq ?_
    refine Runs.block ?_
    refine Runs.rseq ?_
    refine RO.opv (v' := .d (.int _ _)) (opv_move rfl) rfl ?_
    refine RO.opv (v' := .d (.ptr _)) (opv_index_ints rfl rfl (by omega)) rfl ?_
    refine RO.opv (v' := .d (.int _ _)) (opv_load_ptr rfl rfl) rfl ?_
    refine RO.opv (v' := .d (.int _ _)) (opv_assign rfl) rfl ?_
    refine RO.opv (v' := .d (.int _ _)) (opv_assign rfl) rfl ?_
    refine RO.nil ?_
    refine Runs.has [(1, .ref 0 0), (2, .ref 1 0), (3, .d (.int _ _)), (4, .mp 2), (5, .d (.int _ _)), (6, .d (.int _ _)), (9, .d (.list (ints _))), (10, .d (.int _ _)), (11, .d (.int _ _))] ⟨rfl, rfl, rfl, rfl, rfl, rfl, rfl, rfl, rfl, trivial⟩ ?_
    refine Runs.region ?_
    refine RO.opv (v' := .mp 2) (opv_move rfl) rfl ?_
    refine RO.opv (v' := .d (.int _ _)) (opv_move rfl) rfl ?_
    refine RO.opv (v' := .d (.int _ _)) (opv_move rfl) rfl ?_
    refine RO.op0n (O' := [_, _, _]) (opv_update_place rfl rfl hk rfl rfl hnd) rfl ?_
    refine RO.nil ?_
    refine blockQ_normal ?_
    refine thenQ_normal ?_
    refine Runs.has [(1, .ref 0 0), (2, .ref 1 0), (3, .d (.int _ _)), (4, .mp 2), (9, .d (.list (ints _))), (10, .d (.int _ _)), (11, .d (.int _ _))] ⟨rfl, rfl, rfl, rfl, rfl, rfl, rfl, trivial⟩ ?_
    refine Runs.region ?_
    refine RO.opv (v' := .d (.int _ _)) (opv_bin rfl rfl rfl) rfl ?_
    refine RO.opv (v' := .d (.int _ _)) (opv_move rfl) rfl ?_
    refine RO.nil ?_
    refine thenQ_normal ?_
    refine ⟨i+1, 3, (by rw [hK]; exact Nat.le_of_ble_eq_true rfl), ⟨rfl, rfl, rfl, rfl, rfl, rfl, trivial⟩, ⟨?_, trivial⟩, rfl, ?_, ?_⟩
    · refine int_eq ?_; rw [wrap64 (by omega) (by omega)]; omega
    · omega
    · omega
  · try simp only [Z.a, Z.b, Z.c, Z.d, Z.e, Z.f, Z.g, Z.h, Z.i, Z.j, Z.k, Z.l, Z.m] at h1
    have hk : i = t.vars.length := by omega
    refine RO.nil ?_
    refine Runs.seq ?_
    refine Runs.condF rfl ?_
    refine Runs.exit ?_
    refine thenQ_exit ?_
    refine thenQ_exit ?_
    refine blockQ_here ?_
    refine thenQ_normal ?_
    refine Runs.has [(1, .ref 0 0), (2, .ref 1 0), (3, .d (.int _ _)), (4, .mp 2)] ⟨rfl, rfl, rfl, rfl, trivial⟩ ?_
    rw [hk, List.take_length]
    refine Runs.rseq ?_
    refine RO.opv (v' := .d (enc _)) (opv_load_term rfl rfl rfl) rfl ?_
    refine RO.opv (v' := .mp 2) (opv_move rfl) rfl ?_
    refine RO.opn (v' := .d (enc _)) (O' := [_, _, _]) (opv_callS 2 1 (put_fn t.vars t hb) rfl rfl rfl (Nat.le_of_ble_eq_true rfl) rfl (AV.bds_of_B _ rfl)) rfl rfl ?_
    refine RO.opv (v' := .mp 2) (opv_move rfl) rfl ?_
    refine RO.opv (v' := .d (.int _ _)) (opv_len_place rfl rfl) rfl ?_
    refine RO.op0n (O' := [_, _, _]) (opv_store_term rfl rfl rfl (Nat.le_of_ble_eq_true rfl)) rfl ?_
    refine RO.opv (v' := .d (.int _ _)) (opv_assign rfl) rfl ?_
    refine RO.nil ?_
    refine Runs.ret ?_
    refine EndQ.ct (v := .d (enc _)) (v' := .d (.int _ _)) (.inr rfl) rfl rfl rfl (by exact take_term _) rfl 0 (by exact Nat.le_refl _) (by exact Nat.zero_le _) trivial trivial ⟨?_, rfl⟩
    rfl
end Go.Proofs.Ytohncglpjiplaaa.AM
