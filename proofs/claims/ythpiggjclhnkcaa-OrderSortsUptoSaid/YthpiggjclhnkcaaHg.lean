import Derived.Test.YthpiggjclhnkcaaFg
import Derived.Test.YthpiggjclhnkcaaF2
namespace Go.Proofs.Ythpiggjclhnkcaa.AM
open Go
set_option linter.unusedVariables false
set_option linter.unusedSimpArgs false
theorem sis_fn (t : Term) : Fn Try.prog 40 [.d (enc t)] [] (.d (.bool t.isS)) [] := by
  refine Does.run Try.func40 rfl Try.ntmps40 rfl fun K hK => ?_
  refine Runs.rseq ?_
  refine RO.opn (v' := .ref 0 0) (O' := [_]) (opv_box_term rfl) rfl rfl ?_
  refine RO.opv (v' := .d (.bool false)) (opv_assign rfl) rfl ?_
  refine RO.nil ?_
  refine Runs.has [(1, .ref 0 0), (2, .d (.bool false))] ⟨rfl, rfl, trivial⟩ ?_
  refine Runs.rseq ?_
  refine RO.opv (v' := .ref 0 0) (opv_field_ref rfl rfl) rfl ?_
  refine RO.opv (v' := .d (.int _ _)) (opv_load_ref rfl rfl rfl) rfl ?_
  refine RO.opv (v' := .d (.bool _)) (opv_bin rfl rfl rfl) rfl ?_
  refine RO.opc (opv_move rfl) (fun h1 => ?_) (fun h1 => ?_)
  · try simp only [Z.a, Z.b, Z.c, Z.d, Z.e, Z.f, Z.g, Z.h, Z.i, Z.j, Z.k, Z.l, Z.m] at h1
    have h4 : t.kind = 4 := h1
    refine RO.opgv (v' := .ref 0 3) rfl (opv_field_ref rfl rfl) rfl ?_
    refine RO.opgv (v' := .d (.list (encs _))) rfl (opv_load_ref rfl rfl rfl) rfl ?_
    refine RO.opgv (v' := .d (.int _ _)) rfl (opv_len_terms rfl) rfl ?_
    refine RO.opgv (v' := .d (.bool _)) rfl (opv_bin rfl rfl rfl) rfl ?_
    refine RO.opv (v' := .d (.bool _)) (opv_pick rfl rfl) rfl ?_
    refine RO.opv (v' := .d (.bool _)) (opv_assign rfl) rfl ?_
    refine RO.nil ?_
    refine Runs.ret ?_
    refine EndQ.tmp (.inr rfl) rfl rfl 0 (by exact Nat.le_refl _) (by exact Nat.zero_le _) trivial ⟨?_, rfl⟩
    refine bool_eq ?_; rw [Bool.eq_iff_iff, isS_iff]; simp; omega
  · try simp only [Z.a, Z.b, Z.c, Z.d, Z.e, Z.f, Z.g, Z.h, Z.i, Z.j, Z.k, Z.l, Z.m] at h1
    have h4 : ¬ t.kind = 4 := h1
    refine RO.off rfl ?_
    refine RO.off rfl ?_
    refine RO.off rfl ?_
    refine RO.off rfl ?_
    refine RO.opv (v' := .d (.bool false)) (opv_pick rfl rfl) rfl ?_
    refine RO.opv (v' := .d (.bool false)) (opv_assign rfl) rfl ?_
    refine RO.nil ?_
    refine Runs.ret ?_
    refine EndQ.tmp (.inr rfl) rfl rfl 0 (by exact Nat.le_refl _) (by exact Nat.zero_le _) trivial ⟨?_, rfl⟩
    refine bool_eq ?_; rw [Bool.eq_iff_iff, isS_iff]; simp; omega
theorem erase_aux  : ∀ (m : Nat) (t : Term), t.size ≤ m → t.bulk ≤ 2 ^ 30 → Fn Try.prog 17 [.d (enc t)] [] (.d (enc t.erase)) [] := by
  intro m
  induction m with
  | zero => intro t h; have := t.size_kids; omega
  | succ m ih =>
  intro t hm hb
  have hS := t.size_kids
  have hU := t.bulk_kids
  have hL := bulks_len t.kids
  refine Does.run Try.func17 rfl Try.ntmps17 rfl fun K hK => ?_
  refine Runs.rseq ?_
  refine RO.opn (v' := .ref 0 0) (O' := [_]) (opv_box_term rfl) rfl rfl ?_
  refine RO.opn (v' := .ref 1 0) (O' := [_, _]) (opv_alloc) rfl rfl ?_
  refine RO.nil ?_
  refine Runs.has [(1, .ref 0 0), (2, .ref 1 0)] ⟨rfl, rfl, trivial⟩ ?_
  refine Runs.seq ?_
  refine Runs.rseq ?_
  refine RO.opv (v' := .d (enc _)) (opv_load_term rfl rfl rfl) rfl ?_
  refine RO.opc (opv_callF (sis_fn t) rfl rfl rfl trivial) (fun h1 => ?_) (fun h1 => ?_)
  · try simp only [Z.a, Z.b, Z.c, Z.d, Z.e, Z.f, Z.g, Z.h, Z.i, Z.j, Z.k, Z.l, Z.m] at h1
    have hk := (show 0 < t.kids.length by have := (isS_iff.1 h1).2; omega)
    have hs := h1
    refine RO.nil ?_
    refine Runs.condT rfl ?_
    refine Runs.has [(1, .ref 0 0), (2, .ref 1 0)] ⟨rfl, rfl, trivial⟩ ?_
    refine Runs.rseq ?_
    refine RO.opv (v' := .ref 0 3) (opv_field_ref rfl rfl) rfl ?_
    refine RO.opv (v' := .d (.list (encs _))) (opv_load_ref rfl rfl rfl) rfl ?_
    refine RO.opv (v' := .d (.ptr _)) (opv_index_terms (i := 0) rfl rfl hk) rfl ?_
    refine RO.opv (v' := .d (enc _)) (opv_load_pterm rfl) rfl ?_
    refine RO.opv (v' := .d (enc _)) (opv_callF (ih t.kids[0] (by have := sizes_mem (List.getElem_mem (l := t.kids) (n := 0) hk); omega) (by have := bulks_mem (List.getElem_mem (l := t.kids) (n := 0) hk); omega)) rfl rfl rfl trivial) rfl ?_
    refine RO.op0n (O' := [_, _]) (opv_store_term rfl rfl rfl (Nat.le_of_ble_eq_true rfl)) rfl ?_
    refine RO.nil ?_
    refine Runs.ret ?_
    refine thenQ_ret ?_
    refine EndQ.cell_term (.inr rfl) rfl rfl rfl rfl 0 (by exact Nat.le_refl _) (by exact Nat.zero_le _) ⟨?_, rfl⟩
    refine term_eq ?_; rw [erase_seal hs hk]
  · try simp only [Z.a, Z.b, Z.c, Z.d, Z.e, Z.f, Z.g, Z.h, Z.i, Z.j, Z.k, Z.l, Z.m] at h1
    have hs := h1
    refine RO.nil ?_
    refine Runs.condF rfl ?_
    refine Runs.skip ?_
    refine thenQ_normal ?_
    refine Runs.has [(1, .ref 0 0), (2, .ref 1 0)] ⟨rfl, rfl, trivial⟩ ?_
    refine Runs.rseq ?_
    refine RO.opv (v' := .nil0) (opv_assign rfl) rfl ?_
    refine RO.nil ?_
    refine Runs.seq ?_
    refine Runs.adopt 3 24 4 rfl ?_
    refine Runs.rseq ?_
    refine RO.opv (v' := .ref 0 3) (opv_field_ref rfl rfl) rfl ?_
    refine RO.opv (v' := .d (.list (encs _))) (opv_load_ref rfl rfl rfl) rfl ?_
    refine RO.opv (v' := .d (.int _ _)) (opv_len_terms rfl) rfl ?_
    refine RO.opv (v' := .d (.int _ _)) (opv_move rfl) rfl ?_
    refine RO.nil ?_
    refine Runs.block ?_
    refine Runs.loopC (X := Nat) (fun i => i ≤ t.kids.length) (fun i => t.kids.length - i) [(1, .ref 0 0), (2, .ref 1 0), (14, .d (.list (encs _))), (15, .d (.int _ _))] (fun i => [(3, .own 2 (1 + i)), (16, .d (.int .i64 (i : Nat)))]) [_, _] (fun i => [.buf 24 4 (encs (erases (t.kids.take i))) (1 + i)]) (0) ⟨rfl, rfl, rfl, rfl, trivial⟩ ⟨rfl, rfl, trivial⟩ rfl (by omega) fun i hi => ?_
    refine Runs.rseq ?_
    refine RO.opc (opv_bin rfl rfl rfl) (fun h2 => ?_) (fun h2 => ?_)
    · try simp only [Z.a, Z.b, Z.c, Z.d, Z.e, Z.f, Z.g, Z.h, Z.i, Z.j, Z.k, Z.l, Z.m] at h2
      have hk : i < t.kids.length := by omega
      refine RO.nil ?_
      refine Runs.seq ?_
      refine Runs.condT rfl ?_
      refine Runs.skip ?_
      refine thenQ_normal ?_
      refine Runs.has [(1, .ref 0 0), (2, .ref 1 0), (3, .own 2 _), (14, .d (.list (encs _))), (15, .d (.int _ _)), (16, .d (.int _ _))] ⟨rfl, rfl, rfl, rfl, rfl, rfl, trivial⟩ ?_
      refine Runs.seq ?_
      refine Runs.block ?_
      refine Runs.rseq ?_
      refine RO.opv (v' := .d (.ptr _)) (opv_index_terms rfl rfl (by omega)) rfl ?_
      refine RO.opv (v' := .d (enc _)) (opv_load_pterm rfl) rfl ?_
      refine RO.opn (v' := .ref 3 0) (O' := [_, _, _, _]) (opv_alloc) rfl rfl ?_
      refine RO.op0n (O' := [_, _, _, _]) (opv_store_term rfl rfl rfl (Nat.le_of_ble_eq_true rfl)) rfl ?_
      refine RO.nil ?_
      refine Runs.has [(1, .ref 0 0), (2, .ref 1 0), (3, .own 2 _), (5, .ref 3 0), (14, .d (.list (encs _))), (15, .d (.int _ _)), (16, .d (.int _ _))] ⟨rfl, rfl, rfl, rfl, rfl, rfl, rfl, trivial⟩ ?_
      refine Runs.region ?_
      refine RO.opv (v' := .own 2 _) (opv_move rfl) rfl ?_
      refine RO.opv (v' := .d (enc _)) (opv_load_term rfl rfl rfl) rfl ?_
      refine RO.opv (v' := .d (enc _)) (opv_callF (ih t.kids[i] (by have := sizes_mem (List.getElem_mem (l := t.kids) (n := i) hk); omega) (by have := bulks_mem (List.getElem_mem (l := t.kids) (n := i) hk); omega)) rfl rfl rfl trivial) rfl ?_
      refine RO.opv (v' := .d (.list (encs _))) (opv_bs_term1 rfl ) rfl ?_
      refine RO.opn (v' := .own 2 _) (O' := [_, _, _, _]) (opv_append_terms rfl rfl rfl (by rw [erases_len]; simp; omega)) rfl rfl ?_
      refine RO.opv (v' := .own 2 _) (opv_assign rfl) rfl ?_
      refine RO.nil ?_
      refine blockQ_normal ?_
      refine thenQ_normal ?_
      refine Runs.has [(1, .ref 0 0), (2, .ref 1 0), (3, .own 2 _), (14, .d (.list (encs _))), (15, .d (.int _ _)), (16, .d (.int _ _))] ⟨rfl, rfl, rfl, rfl, rfl, rfl, trivial⟩ ?_
      refine Runs.region ?_
      refine RO.opv (v' := .d (.int _ _)) (opv_bin rfl rfl rfl) rfl ?_
      refine RO.opv (v' := .d (.int _ _)) (opv_move rfl) rfl ?_
      refine RO.nil ?_
      refine thenQ_normal ?_
      refine ⟨i+1, 3, (by rw [hK]; exact Nat.le_of_ble_eq_true rfl), ⟨rfl, rfl, rfl, rfl, trivial⟩, ⟨?_, ?_, trivial⟩, ?_, ?_, ?_⟩
      · rfl
      · refine int_eq ?_; rw [wrap64 (by omega) (by omega)]; omega
      · rw [erases_take hk]; rfl
      · omega
      · omega
    · try simp only [Z.a, Z.b, Z.c, Z.d, Z.e, Z.f, Z.g, Z.h, Z.i, Z.j, Z.k, Z.l, Z.m] at h2
      have hk : i = t.kids.length := by omega
      refine RO.nil ?_
      refine Runs.seq ?_
      refine Runs.condF rfl ?_
      refine Runs.exit ?_
      refine thenQ_exit ?_
      refine thenQ_exit ?_
      refine blockQ_here ?_
      refine thenQ_normal ?_
      refine Runs.has [(1, .ref 0 0), (2, .ref 1 0), (3, .own 2 _)] ⟨rfl, rfl, rfl, trivial⟩ ?_
      refine Runs.shut 3 rfl rfl ?_
      refine Runs.rseq ?_
      refine RO.opv (v' := .d (.list (encs _))) (opv_move rfl) rfl ?_
      refine RO.opv (v' := .ref 0 3) (opv_field_ref rfl rfl) rfl ?_
      refine RO.op0n (O' := [_, _, _]) (opv_store_ref rfl rfl rfl rfl rfl (Nat.le_of_ble_eq_true rfl) rfl) rfl ?_
      refine RO.nil ?_
      refine Runs.has [(1, .ref 0 0), (2, .ref 1 0)] ⟨rfl, rfl, trivial⟩ ?_
      refine Runs.rseq ?_
      refine RO.opv (v' := .d (enc _)) (opv_load_node rfl rfl rfl rfl) rfl ?_
      refine RO.op0n (O' := [_, _, _]) (opv_store_term rfl rfl rfl (Nat.le_of_ble_eq_true rfl)) rfl ?_
      refine RO.nil ?_
      refine Runs.ret ?_
      refine EndQ.cell_term (.inr rfl) rfl rfl rfl rfl 0 (by exact Nat.le_refl _) (by exact Nat.zero_le _) ⟨?_, rfl⟩
      refine term_eq ?_; rw [erase_node hs, hk, List.take_length]
theorem erase_fn (t : Term) (hb : t.bulk ≤ 2 ^ 30) : Fn Try.prog 17 [.d (enc t)] [] (.d (enc t.erase)) [] := erase_aux t.size t (Nat.le_refl _) hb
end Go.Proofs.Ythpiggjclhnkcaa.AM
