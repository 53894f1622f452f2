import Derived.Test.YtljmkgjemmoegaaAg
import Derived.Test.YtljmkgjemmoegaaY3
import Derived.Test.YtljmkgjemmoegaaJg
namespace Go.Proofs.Ytljmkgjemmoegaa.AM
open Go
set_option linter.unusedVariables false
set_option linter.unusedSimpArgs false
set_option maxRecDepth 100000
theorem mleq_fn (M : List (List Bool)) (l : Lt) (hM : Mt M l) (a b : Int) : Fn Try.prog 46 [.d (encR M), .d (.int .i64 a), .d (.int .i64 b)] [] (.d (.bool (l.leq a b))) [] := by
  have h := tleq_fn M l.n hM.sq hM.n16 a b
  rwa [hM.leq] at h
theorem mjoin_fn (M : List (List Bool)) (l : Lt) (hM : Mt M l) (a b : Int) : Fn Try.prog 41 [.d (encR M), .d (.int .i64 a), .d (.int .i64 b)] [] (.d (.int .i64 (l.join a b))) [] := by
  have h := tjoin_fn M l.n hM.sq hM.n16 a b
  rwa [hM.join] at h
theorem mtop_fn (M : List (List Bool)) (l : Lt) (hM : Mt M l) : Fn Try.prog 49 [.d (encR M)] [] (.d (.int .i64 l.top)) [] := by
  have h := ttop_fn M l.n hM.sq hM.n16
  rwa [hM.top] at h
theorem rlevel_fn (M : List (List Bool)) (l : Lt) (hM : Mt M l) (n : Int) : Fn Try.prog 47 [.d (encR M), .d (.int .i64 n)] [] (.d (.int .i64 (l.lev n))) [] := by
  refine Does.run Try.func47 rfl Try.ntmps47 rfl fun K hK => ?_
  refine Runs.rseq ?_
  refine RO.opn (v' := .ref 0 0) (O' := [_]) (opv_box rfl rfl) rfl rfl ?_
  refine RO.opv (v' := .d (.int _ _)) (opv_assign rfl) rfl ?_
  refine RO.nil ?_
  refine Runs.has [(1, .d (.int _ _)), (2, .ref 0 0), (4, .d (.int _ _))] ⟨rfl, rfl, rfl, trivial⟩ ?_
  refine Runs.seq ?_
  refine Runs.rseq ?_
  refine RO.opv (v' := .d (.int _ _)) (opv_move rfl) rfl ?_
  refine RO.opv (v' := .d (.bool _)) (opv_bin rfl rfl rfl) rfl ?_
  refine RO.opc (opv_move rfl) (fun h1 => ?_) (fun h1 => ?_)
  · try simp only [decide_eq_true_eq, decide_eq_false_iff_not, beq_iff_eq, beq_eq_false_iff_ne, bne_iff_ne, bne_eq_false_iff_eq, Int.not_lt, Int.not_le, ne_eq, Bool.not_eq_true', Bool.not_eq_false', gt_iff_lt, ge_iff_le] at h1
    have hx := h1
    refine RO.opgv (v' := .d (.int _ _)) rfl (opv_move rfl) rfl ?_
    refine RO.opgv (v' := .ref 0 0) rfl (opv_field_ref rfl rfl) rfl ?_
    refine RO.opgv (v' := .d (.list (rowsD _))) rfl (opv_load_ref rfl rfl rfl) rfl ?_
    refine RO.opgv (v' := .d (.int _ _)) rfl (opv_len_rows rfl) rfl ?_
    refine RO.opgv (v' := .d (.bool _)) rfl (opv_bin rfl rfl rfl) rfl ?_
    refine RO.opc (opv_pick rfl rfl) (fun h2 => ?_) (fun h2 => ?_)
    · try simp only [decide_eq_true_eq, decide_eq_false_iff_not, beq_iff_eq, beq_eq_false_iff_ne, bne_iff_ne, bne_eq_false_iff_eq, Int.not_lt, Int.not_le, ne_eq, Bool.not_eq_true', Bool.not_eq_false', gt_iff_lt, ge_iff_le] at h2
      have hy := h2
      refine RO.nil ?_
      refine Runs.condT rfl ?_
      refine Runs.has [(1, .d (.int _ _)), (2, .ref 0 0), (4, .d (.int _ _))] ⟨rfl, rfl, rfl, trivial⟩ ?_
      refine Runs.rseq ?_
      refine RO.opv (v' := .d (.int _ _)) (opv_move rfl) rfl ?_
      refine RO.opv (v' := .d (.int _ _)) (opv_assign rfl) rfl ?_
      refine RO.nil ?_
      refine Runs.ret ?_
      refine thenQ_ret ?_
      refine EndQ.tmp (.inr rfl) rfl rfl 0 (by exact Nat.le_refl _) (by exact Nat.zero_le _) trivial ⟨?_, rfl⟩
      refine int_eq ?_; unfold Lt.lev; rw [if_neg (by have := hM.sq.1; omega)]
    · try simp only [decide_eq_true_eq, decide_eq_false_iff_not, beq_iff_eq, beq_eq_false_iff_ne, bne_iff_ne, bne_eq_false_iff_eq, Int.not_lt, Int.not_le, ne_eq, Bool.not_eq_true', Bool.not_eq_false', gt_iff_lt, ge_iff_le] at h2
      have hy := h2
      refine RO.nil ?_
      refine Runs.condF rfl ?_
      refine Runs.skip ?_
      refine thenQ_normal ?_
      refine Runs.has [(2, .ref 0 0), (4, .d (.int _ _))] ⟨rfl, rfl, trivial⟩ ?_
      refine Runs.rseq ?_
      refine RO.opv (v' := .d (encR _)) (opv_load_ref rfl rfl rfl) rfl ?_
      refine RO.opv (v' := .d (.int _ _)) (opv_callF (mtop_fn M l hM) rfl rfl rfl trivial) rfl ?_
      refine RO.opv (v' := .d (.int _ _)) (opv_assign rfl) rfl ?_
      refine RO.nil ?_
      refine Runs.ret ?_
      refine EndQ.tmp (.inr rfl) rfl rfl 0 (by exact Nat.le_refl _) (by exact Nat.zero_le _) trivial ⟨?_, rfl⟩
      refine int_eq ?_; unfold Lt.lev; rw [if_pos (by have := hM.sq.1; omega)]
  · try simp only [decide_eq_true_eq, decide_eq_false_iff_not, beq_iff_eq, beq_eq_false_iff_ne, bne_iff_ne, bne_eq_false_iff_eq, Int.not_lt, Int.not_le, ne_eq, Bool.not_eq_true', Bool.not_eq_false', gt_iff_lt, ge_iff_le] at h1
    have hx := h1
    refine RO.off rfl ?_
    refine RO.off rfl ?_
    refine RO.off rfl ?_
    refine RO.off rfl ?_
    refine RO.off rfl ?_
    refine RO.opv (v' := .d (.bool false)) (opv_pick rfl rfl) rfl ?_
    refine RO.nil ?_
    refine Runs.condF rfl ?_
    refine Runs.skip ?_
    refine thenQ_normal ?_
    refine Runs.has [(2, .ref 0 0), (4, .d (.int _ _))] ⟨rfl, rfl, trivial⟩ ?_
    refine Runs.rseq ?_
    refine RO.opv (v' := .d (encR _)) (opv_load_ref rfl rfl rfl) rfl ?_
    refine RO.opv (v' := .d (.int _ _)) (opv_callF (mtop_fn M l hM) rfl rfl rfl trivial) rfl ?_
    refine RO.opv (v' := .d (.int _ _)) (opv_assign rfl) rfl ?_
    refine RO.nil ?_
    refine Runs.ret ?_
    refine EndQ.tmp (.inr rfl) rfl rfl 0 (by exact Nat.le_refl _) (by exact Nat.zero_le _) trivial ⟨?_, rfl⟩
    refine int_eq ?_; unfold Lt.lev; rw [if_pos (by have := hM.sq.1; omega)]
theorem rputS_fn (t : Term) (n : Int) : Fn Try.prog 48 [.d (enc t), .d (.int .i64 n)] [] (.d (enc (putS t n))) [] := by
  refine Does.run Try.func48 rfl Try.ntmps48 rfl fun K hK => ?_
  refine Runs.rseq ?_
  refine RO.opn (v' := .ref 0 0) (O' := [_]) (opv_box_term rfl) rfl rfl ?_
  refine RO.opn (v' := .ref 1 0) (O' := [_, _]) (opv_alloc) rfl rfl ?_
  refine RO.nil ?_
  refine Runs.has [(1, .d (.int _ _)), (2, .ref 0 0), (4, .ref 1 0)] ⟨rfl, rfl, rfl, trivial⟩ ?_
  refine Runs.rseq ?_
  refine RO.opv (v' := .d (.int _ _)) (opv_move rfl) rfl ?_
  refine RO.opv (v' := .d (enc _)) (opv_load_term rfl rfl rfl) rfl ?_
  refine RO.opv (v' := .d (.list (encs _))) (opv_bs_term1 rfl ) rfl ?_
  refine RO.opv (v' := .d (enc _)) (opv_build_term rfl rfl) rfl ?_
  refine RO.op0n (O' := [_, _]) (opv_store_term rfl rfl rfl (Nat.le_of_ble_eq_true rfl)) rfl ?_
  refine RO.nil ?_
  refine Runs.ret ?_
  refine EndQ.cell_term (.inr rfl) rfl rfl rfl rfl 0 (by exact Nat.le_refl _) (by exact Nat.zero_le _) ⟨?_, rfl⟩
  rfl
theorem rerase_aux  : ∀ (m : Nat) (t : Term), t.size ≤ m → t.bulk ≤ 2 ^ 30 → Fn Try.prog 51 [.d (enc t)] [] (.d (enc t.erase)) [] := by
  intro m
  induction m with
  | zero => intro t h; have := t.size_kids; omega
  | succ m ih =>
  intro t hm hb
  have hS := t.size_kids
  have hU := t.bulk_kids
  have hL := bulks_len t.kids
  refine Does.run Try.func51 rfl Try.ntmps51 rfl fun K hK => ?_
  refine Runs.rseq ?_
  refine RO.opn (v' := .ref 0 0) (O' := [_]) (opv_box_term rfl) rfl rfl ?_
  refine RO.opn (v' := .ref 1 0) (O' := [_, _]) (opv_alloc) rfl rfl ?_
  refine RO.nil ?_
  refine Runs.has [(1, .ref 0 0), (2, .ref 1 0)] ⟨rfl, rfl, trivial⟩ ?_
  refine Runs.seq ?_
  refine Runs.rseq ?_
  refine RO.opv (v' := .ref 0 0) (opv_field_ref rfl rfl) rfl ?_
  refine RO.opv (v' := .d (.int _ _)) (opv_load_ref rfl rfl rfl) rfl ?_
  refine RO.opv (v' := .d (.bool _)) (opv_bin rfl rfl rfl) rfl ?_
  refine RO.opc (opv_move rfl) (fun h1 => ?_) (fun h1 => ?_)
  · try simp only [decide_eq_true_eq, decide_eq_false_iff_not, beq_iff_eq, beq_eq_false_iff_ne, bne_iff_ne, bne_eq_false_iff_eq, Int.not_lt, Int.not_le, ne_eq, Bool.not_eq_true', Bool.not_eq_false', gt_iff_lt, ge_iff_le] at h1
    have h4 : t.kind = 4 := h1
    refine RO.opgv (v' := .ref 0 3) rfl (opv_field_ref rfl rfl) rfl ?_
    refine RO.opgv (v' := .d (.list (encs _))) rfl (opv_load_ref rfl rfl rfl) rfl ?_
    refine RO.opgv (v' := .d (.int _ _)) rfl (opv_len_terms rfl) rfl ?_
    refine RO.opgv (v' := .d (.bool _)) rfl (opv_bin rfl rfl rfl) rfl ?_
    refine RO.opc (opv_pick rfl rfl) (fun h2 => ?_) (fun h2 => ?_)
    · try simp only [decide_eq_true_eq, decide_eq_false_iff_not, beq_iff_eq, beq_eq_false_iff_ne, bne_iff_ne, bne_eq_false_iff_eq, Int.not_lt, Int.not_le, ne_eq, Bool.not_eq_true', Bool.not_eq_false', gt_iff_lt, ge_iff_le] at h2
      have hq : t.kids.length = 1 := by omega
      have hk0 : 0 < t.kids.length := by omega
      refine RO.nil ?_
      refine Runs.condT rfl ?_
      refine Runs.has [(1, .ref 0 0), (2, .ref 1 0)] ⟨rfl, rfl, trivial⟩ ?_
      refine Runs.rseq ?_
      refine RO.opv (v' := .ref 0 3) (opv_field_ref rfl rfl) rfl ?_
      refine RO.opv (v' := .d (.list (encs _))) (opv_load_ref rfl rfl rfl) rfl ?_
      refine RO.opv (v' := .d (.ptr _)) (opv_index_terms (i := 0) rfl rfl hk0) rfl ?_
      refine RO.opv (v' := .d (enc _)) (opv_load_pterm rfl) rfl ?_
      refine RO.opv (v' := .d (enc _)) (opv_callF (ih t.kids[0] (by have := sizes_mem (List.getElem_mem (l := t.kids) (n := 0) hk0); omega) (by have := bulks_mem (List.getElem_mem (l := t.kids) (n := 0) hk0); omega)) rfl rfl rfl trivial) rfl ?_
      refine RO.op0n (O' := [_, _]) (opv_store_term rfl rfl rfl (Nat.le_of_ble_eq_true rfl)) rfl ?_
      refine RO.nil ?_
      refine Runs.ret ?_
      refine thenQ_ret ?_
      refine EndQ.cell_term (.inr rfl) rfl rfl rfl rfl 0 (by exact Nat.le_refl _) (by exact Nat.zero_le _) ⟨?_, rfl⟩
      refine term_eq ?_; rw [erase_seal (isS_iff.2 ⟨h4, hq⟩) hk0]
    · try simp only [decide_eq_true_eq, decide_eq_false_iff_not, beq_iff_eq, beq_eq_false_iff_ne, bne_iff_ne, bne_eq_false_iff_eq, Int.not_lt, Int.not_le, ne_eq, Bool.not_eq_true', Bool.not_eq_false', gt_iff_lt, ge_iff_le] at h2
      have hq : ¬ t.kids.length = 1 := by omega
      refine RO.nil ?_
      refine Runs.condF rfl ?_
      refine Runs.skip ?_
      refine thenQ_normal ?_
      refine Runs.has [(1, .ref 0 0), (2, .ref 1 0)] ⟨rfl, rfl, trivial⟩ ?_
      refine Runs.newbuf 39 4 ?_
      refine Runs.rseq ?_
      refine RO.opv (v' := .ref 0 0) (opv_field_ref rfl rfl) rfl ?_
      refine RO.opv (v' := .d (.int _ _)) (opv_load_ref rfl rfl rfl) rfl ?_
      refine RO.opv (v' := .ref 0 1) (opv_field_ref rfl rfl) rfl ?_
      refine RO.opv (v' := .d (.int _ _)) (opv_load_ref rfl rfl rfl) rfl ?_
      refine RO.opv (v' := .ref 0 2) (opv_field_ref rfl rfl) rfl ?_
      refine RO.opv (v' := .d (.str _)) (opv_load_ref rfl rfl rfl) rfl ?_
      refine RO.opv (v' := .agg _) (opv_build_own 2 3 rfl rfl rfl) rfl ?_
      refine RO.opn (v' := .ref 3 0) (O' := [_, _, _, _]) (opv_alloc) rfl rfl ?_
      refine RO.op0n (O' := [_, _, _, _]) (opv_store_ref rfl rfl rfl rfl rfl (Nat.le_of_ble_eq_true rfl) rfl) rfl ?_
      refine RO.nil ?_
      refine Runs.has [(1, .ref 0 0), (2, .ref 1 0), (3, .ref 3 0)] ⟨rfl, rfl, rfl, trivial⟩ ?_
      refine Runs.seq ?_
      refine Runs.rseq ?_
      refine RO.opv (v' := .d (.int _ _)) (opv_assign rfl) rfl ?_
      refine RO.nil ?_
      refine Runs.block ?_
      refine Runs.loopC (X := Nat) (fun i => i ≤ t.kids.length) (fun i => t.kids.length - i) [(1, .ref 0 0), (2, .ref 1 0), (3, .ref 3 0)] (fun i => [(4, .d (.int .i64 (i : Nat)))]) [_, _] (fun i => [.buf 39 4 (encs (erases (t.kids.take i))) i, .cells [.d (.int .i64 t.kind), .d (.int .i64 t.num), .d (.str t.name), .own 2 i]]) (0) ⟨rfl, rfl, rfl, trivial⟩ ⟨rfl, trivial⟩ rfl (by omega) fun i hi => ?_
      refine Runs.seq ?_
      refine Runs.rseq ?_
      refine RO.opv (v' := .d (.int _ _)) (opv_move rfl) rfl ?_
      refine RO.opv (v' := .ref 0 3) (opv_field_ref rfl rfl) rfl ?_
      refine RO.opv (v' := .d (.list (encs _))) (opv_load_ref rfl rfl rfl) rfl ?_
      refine RO.opv (v' := .d (.int _ _)) (opv_len_terms rfl) rfl ?_
      refine RO.opc (opv_bin rfl rfl rfl) (fun h3 => ?_) (fun h3 => ?_)
      · try simp only [decide_eq_true_eq, decide_eq_false_iff_not, beq_iff_eq, beq_eq_false_iff_ne, bne_iff_ne, bne_eq_false_iff_eq, Int.not_lt, Int.not_le, ne_eq, Bool.not_eq_true', Bool.not_eq_false', gt_iff_lt, ge_iff_le] at h3
        have hk : i < t.kids.length := by omega
        refine RO.nil ?_
        refine Runs.condT rfl ?_
        refine Runs.skip ?_
        refine thenQ_normal ?_
        refine Runs.has [(1, .ref 0 0), (2, .ref 1 0), (3, .ref 3 0), (4, .d (.int _ _))] ⟨rfl, rfl, rfl, rfl, trivial⟩ ?_
        refine Runs.seq ?_
        refine Runs.block ?_
        refine Runs.drawn (by kernel_rfl) [] [false, false, false, false, false, false, false, false, false, false, false, false] [false, false, false, false, false, false, false, false, false, true, false, true] (by decide +kernel) ?_
        refine RD.opv (v' := .ref 3 3) (opv_field_ref rfl rfl) rfl ?_
        refine RD.opv (v' := .own 2 _) (opv_load_ref rfl rfl rfl) rfl ?_
        refine RD.opv (v' := .ref 0 3) (opv_field_ref rfl rfl) rfl ?_
        refine RD.opv (v' := .d (.list (encs _))) (opv_load_ref rfl rfl rfl) rfl ?_
        refine RD.opv (v' := .d (.int _ _)) (opv_move rfl) rfl ?_
        refine RD.opv (v' := .d (.ptr _)) (opv_index_terms rfl rfl (by omega)) rfl ?_
        refine RD.opv (v' := .d (enc _)) (opv_load_pterm rfl) rfl ?_
        refine RD.opv (v' := .d (enc _)) (opv_callF (ih t.kids[i] (by have := sizes_mem (List.getElem_mem (l := t.kids) (n := i) hk); omega) (by have := bulks_mem (List.getElem_mem (l := t.kids) (n := i) hk); omega)) rfl rfl rfl trivial) rfl ?_
        refine RD.opv (v' := .d (.list (encs _))) (opv_bs_term1 rfl ) rfl ?_
        refine RD.opn (v' := .own 2 _) (O' := [_, _, _, _]) (opv_append_terms rfl rfl rfl (by rw [erases_len]; simp; omega)) rfl rfl trivial ?_
        refine RD.opv (v' := .ref 3 3) (opv_field_ref rfl rfl) rfl ?_
        refine RD.op0n (O' := [_, _, _, _]) (opv_store_ref rfl rfl rfl rfl rfl (Nat.le_of_ble_eq_true rfl) rfl) rfl trivial ?_
        refine RD.nil ?_
        refine blockQ_normal ?_
        refine thenQ_normal ?_
        refine Runs.has [(1, .ref 0 0), (2, .ref 1 0), (3, .ref 3 0), (4, .d (.int _ _))] ⟨rfl, rfl, rfl, rfl, trivial⟩ ?_
        refine Runs.region ?_
        refine RO.opv (v' := .d (.int _ _)) (opv_move rfl) rfl ?_
        refine RO.opv (v' := .d (.int _ _)) (opv_bin rfl rfl rfl) rfl ?_
        refine RO.opv (v' := .d (.int _ _)) (opv_assign rfl) rfl ?_
        refine RO.nil ?_
        refine thenQ_normal ?_
        refine ⟨i+1, 4, (by rw [hK]; exact Nat.le_of_ble_eq_true rfl), ⟨rfl, rfl, rfl, trivial⟩, ⟨?_, trivial⟩, ?_, ?_, ?_⟩
        · refine int_eq ?_; rw [wrap64 (by omega) (by omega)]; omega
        · rw [erases_take hk]; rfl
        · omega
        · omega
      · try simp only [decide_eq_true_eq, decide_eq_false_iff_not, beq_iff_eq, beq_eq_false_iff_ne, bne_iff_ne, bne_eq_false_iff_eq, Int.not_lt, Int.not_le, ne_eq, Bool.not_eq_true', Bool.not_eq_false', gt_iff_lt, ge_iff_le] at h3
        have hk : i = t.kids.length := by omega
        refine RO.nil ?_
        refine Runs.condF rfl ?_
        refine Runs.exit ?_
        refine thenQ_exit ?_
        refine thenQ_exit ?_
        refine blockQ_here ?_
        refine thenQ_normal ?_
        refine Runs.has [(2, .ref 1 0), (3, .ref 3 0)] ⟨rfl, rfl, trivial⟩ ?_
        refine Runs.shutC 3 3 rfl rfl rfl ?_
        refine Runs.rseq ?_
        refine RO.opv (v' := .d (enc _)) (opv_load_node rfl rfl rfl rfl) rfl ?_
        refine RO.op0n (O' := [_, _, _, _]) (opv_store_term rfl rfl rfl (Nat.le_of_ble_eq_true rfl)) rfl ?_
        refine RO.nil ?_
        refine Runs.ret ?_
        refine EndQ.cell_term (.inr rfl) rfl rfl rfl rfl 0 (by exact Nat.le_refl _) (by exact Nat.zero_le _) ⟨?_, rfl⟩
        refine term_eq ?_; rw [erase_node (by rw [Bool.eq_false_iff]; intro e; have := isS_iff.1 e; omega), hk, List.take_length]
  · try simp only [decide_eq_true_eq, decide_eq_false_iff_not, beq_iff_eq, beq_eq_false_iff_ne, bne_iff_ne, bne_eq_false_iff_eq, Int.not_lt, Int.not_le, ne_eq, Bool.not_eq_true', Bool.not_eq_false', gt_iff_lt, ge_iff_le] at h1
    have h4 : ¬ t.kind = 4 := h1
    refine RO.off rfl ?_
    refine RO.off rfl ?_
    refine RO.off rfl ?_
    refine RO.off rfl ?_
    refine RO.opv (v' := .d (.bool false)) (opv_pick rfl rfl) rfl ?_
    refine RO.nil ?_
    refine Runs.condF rfl ?_
    refine Runs.skip ?_
    refine thenQ_normal ?_
    refine Runs.has [(1, .ref 0 0), (2, .ref 1 0)] ⟨rfl, rfl, trivial⟩ ?_
    refine Runs.newbuf 39 4 ?_
    refine Runs.rseq ?_
    refine RO.opv (v' := .ref 0 0) (opv_field_ref rfl rfl) rfl ?_
    refine RO.opv (v' := .d (.int _ _)) (opv_load_ref rfl rfl rfl) rfl ?_
    refine RO.opv (v' := .ref 0 1) (opv_field_ref rfl rfl) rfl ?_
    refine RO.opv (v' := .d (.int _ _)) (opv_load_ref rfl rfl rfl) rfl ?_
    refine RO.opv (v' := .ref 0 2) (opv_field_ref rfl rfl) rfl ?_
    refine RO.opv (v' := .d (.str _)) (opv_load_ref rfl rfl rfl) rfl ?_
    refine RO.opv (v' := .agg _) (opv_build_own 2 3 rfl rfl rfl) rfl ?_
    refine RO.opn (v' := .ref 3 0) (O' := [_, _, _, _]) (opv_alloc) rfl rfl ?_
    refine RO.op0n (O' := [_, _, _, _]) (opv_store_ref rfl rfl rfl rfl rfl (Nat.le_of_ble_eq_true rfl) rfl) rfl ?_
    refine RO.nil ?_
    refine Runs.has [(1, .ref 0 0), (2, .ref 1 0), (3, .ref 3 0)] ⟨rfl, rfl, rfl, trivial⟩ ?_
    refine Runs.seq ?_
    refine Runs.rseq ?_
    refine RO.opv (v' := .d (.int _ _)) (opv_assign rfl) rfl ?_
    refine RO.nil ?_
    refine Runs.block ?_
    refine Runs.loopC (X := Nat) (fun i => i ≤ t.kids.length) (fun i => t.kids.length - i) [(1, .ref 0 0), (2, .ref 1 0), (3, .ref 3 0)] (fun i => [(4, .d (.int .i64 (i : Nat)))]) [_, _] (fun i => [.buf 39 4 (encs (erases (t.kids.take i))) i, .cells [.d (.int .i64 t.kind), .d (.int .i64 t.num), .d (.str t.name), .own 2 i]]) (0) ⟨rfl, rfl, rfl, trivial⟩ ⟨rfl, trivial⟩ rfl (by omega) fun i hi => ?_
    refine Runs.seq ?_
    refine Runs.rseq ?_
    refine RO.opv (v' := .d (.int _ _)) (opv_move rfl) rfl ?_
    refine RO.opv (v' := .ref 0 3) (opv_field_ref rfl rfl) rfl ?_
    refine RO.opv (v' := .d (.list (encs _))) (opv_load_ref rfl rfl rfl) rfl ?_
    refine RO.opv (v' := .d (.int _ _)) (opv_len_terms rfl) rfl ?_
    refine RO.opc (opv_bin rfl rfl rfl) (fun h4 => ?_) (fun h4 => ?_)
    · try simp only [decide_eq_true_eq, decide_eq_false_iff_not, beq_iff_eq, beq_eq_false_iff_ne, bne_iff_ne, bne_eq_false_iff_eq, Int.not_lt, Int.not_le, ne_eq, Bool.not_eq_true', Bool.not_eq_false', gt_iff_lt, ge_iff_le] at h4
      have hk : i < t.kids.length := by omega
      refine RO.nil ?_
      refine Runs.condT rfl ?_
      refine Runs.skip ?_
      refine thenQ_normal ?_
      refine Runs.has [(1, .ref 0 0), (2, .ref 1 0), (3, .ref 3 0), (4, .d (.int _ _))] ⟨rfl, rfl, rfl, rfl, trivial⟩ ?_
      refine Runs.seq ?_
      refine Runs.block ?_
      refine Runs.drawn (by kernel_rfl) [] [false, false, false, false, false, false, false, false, false, false, false, false] [false, false, false, false, false, false, false, false, false, true, false, true] (by decide +kernel) ?_
      refine RD.opv (v' := .ref 3 3) (opv_field_ref rfl rfl) rfl ?_
      refine RD.opv (v' := .own 2 _) (opv_load_ref rfl rfl rfl) rfl ?_
      refine RD.opv (v' := .ref 0 3) (opv_field_ref rfl rfl) rfl ?_
      refine RD.opv (v' := .d (.list (encs _))) (opv_load_ref rfl rfl rfl) rfl ?_
      refine RD.opv (v' := .d (.int _ _)) (opv_move rfl) rfl ?_
      refine RD.opv (v' := .d (.ptr _)) (opv_index_terms rfl rfl (by omega)) rfl ?_
      refine RD.opv (v' := .d (enc _)) (opv_load_pterm rfl) rfl ?_
      refine RD.opv (v' := .d (enc _)) (opv_callF (ih t.kids[i] (by have := sizes_mem (List.getElem_mem (l := t.kids) (n := i) hk); omega) (by have := bulks_mem (List.getElem_mem (l := t.kids) (n := i) hk); omega)) rfl rfl rfl trivial) rfl ?_
      refine RD.opv (v' := .d (.list (encs _))) (opv_bs_term1 rfl ) rfl ?_
      refine RD.opn (v' := .own 2 _) (O' := [_, _, _, _]) (opv_append_terms rfl rfl rfl (by rw [erases_len]; simp; omega)) rfl rfl trivial ?_
      refine RD.opv (v' := .ref 3 3) (opv_field_ref rfl rfl) rfl ?_
      refine RD.op0n (O' := [_, _, _, _]) (opv_store_ref rfl rfl rfl rfl rfl (Nat.le_of_ble_eq_true rfl) rfl) rfl trivial ?_
      refine RD.nil ?_
      refine blockQ_normal ?_
      refine thenQ_normal ?_
      refine Runs.has [(1, .ref 0 0), (2, .ref 1 0), (3, .ref 3 0), (4, .d (.int _ _))] ⟨rfl, rfl, rfl, rfl, trivial⟩ ?_
      refine Runs.region ?_
      refine RO.opv (v' := .d (.int _ _)) (opv_move rfl) rfl ?_
      refine RO.opv (v' := .d (.int _ _)) (opv_bin rfl rfl rfl) rfl ?_
      refine RO.opv (v' := .d (.int _ _)) (opv_assign rfl) rfl ?_
      refine RO.nil ?_
      refine thenQ_normal ?_
      refine ⟨i+1, 4, (by rw [hK]; exact Nat.le_of_ble_eq_true rfl), ⟨rfl, rfl, rfl, trivial⟩, ⟨?_, trivial⟩, ?_, ?_, ?_⟩
      · refine int_eq ?_; rw [wrap64 (by omega) (by omega)]; omega
      · rw [erases_take hk]; rfl
      · omega
      · omega
    · try simp only [decide_eq_true_eq, decide_eq_false_iff_not, beq_iff_eq, beq_eq_false_iff_ne, bne_iff_ne, bne_eq_false_iff_eq, Int.not_lt, Int.not_le, ne_eq, Bool.not_eq_true', Bool.not_eq_false', gt_iff_lt, ge_iff_le] at h4
      have hk : i = t.kids.length := by omega
      refine RO.nil ?_
      refine Runs.condF rfl ?_
      refine Runs.exit ?_
      refine thenQ_exit ?_
      refine thenQ_exit ?_
      refine blockQ_here ?_
      refine thenQ_normal ?_
      refine Runs.has [(2, .ref 1 0), (3, .ref 3 0)] ⟨rfl, rfl, trivial⟩ ?_
      refine Runs.shutC 3 3 rfl rfl rfl ?_
      refine Runs.rseq ?_
      refine RO.opv (v' := .d (enc _)) (opv_load_node rfl rfl rfl rfl) rfl ?_
      refine RO.op0n (O' := [_, _, _, _]) (opv_store_term rfl rfl rfl (Nat.le_of_ble_eq_true rfl)) rfl ?_
      refine RO.nil ?_
      refine Runs.ret ?_
      refine EndQ.cell_term (.inr rfl) rfl rfl rfl rfl 0 (by exact Nat.le_refl _) (by exact Nat.zero_le _) ⟨?_, rfl⟩
      refine term_eq ?_; rw [erase_node (by rw [Bool.eq_false_iff]; intro e; have := isS_iff.1 e; omega), hk, List.take_length]
theorem rerase_fn (t : Term) (hb : t.bulk ≤ 2 ^ 30) : Fn Try.prog 51 [.d (enc t)] [] (.d (enc t.erase)) [] := rerase_aux t.size t (Nat.le_refl _) hb
theorem rsee_aux (M : List (List Bool)) (l : Lt) (hM : Mt M l) (lv : Int) : ∀ (m : Nat) (t : Term), t.size ≤ m → t.bulk ≤ 2 ^ 30 → Fn Try.prog 16 [.d (encR M), .d (enc t), .d (.int .i64 lv)] [] (.d (enc (t.see l lv))) [] := by
  intro m
  induction m with
  | zero => intro t h; have := t.size_kids; omega
  | succ m ih =>
  intro t hm hb
  have hS := t.size_kids
  have hU := t.bulk_kids
  have hL := bulks_len t.kids
  refine Does.run Try.func16 rfl Try.ntmps16 rfl fun K hK => ?_
  refine Runs.rseq ?_
  refine RO.opn (v' := .ref 0 0) (O' := [_]) (opv_box rfl rfl) rfl rfl ?_
  refine RO.opn (v' := .ref 1 0) (O' := [_, _]) (opv_box_term rfl) rfl rfl ?_
  refine RO.opn (v' := .ref 2 0) (O' := [_, _, _]) (opv_alloc) rfl rfl ?_
  refine RO.nil ?_
  refine Runs.has [(2, .d (.int _ _)), (3, .ref 0 0), (4, .ref 1 0), (6, .ref 2 0)] ⟨rfl, rfl, rfl, rfl, trivial⟩ ?_
  refine Runs.seq ?_
  refine Runs.seq ?_
  refine Runs.drawn (by kernel_rfl) [] [false, false, false, false, false, false, false, false, false, false, false, false, false] [false, false, false, false, false, false, false, false, false, false, false, false, false] (by decide +kernel) ?_
  refine RD.opv (v' := .ref 1 0) (opv_field_ref rfl rfl) rfl ?_
  refine RD.opv (v' := .d (.int _ _)) (opv_load_ref rfl rfl rfl) rfl ?_
  refine RD.opv (v' := .d (.bool _)) (opv_bin rfl rfl rfl) rfl ?_
  refine RD.opc (opv_move rfl) (fun h1 => ?_) (fun h1 => ?_)
  · try simp only [decide_eq_true_eq, decide_eq_false_iff_not, beq_iff_eq, beq_eq_false_iff_ne, bne_iff_ne, bne_eq_false_iff_eq, Int.not_lt, Int.not_le, ne_eq, Bool.not_eq_true', Bool.not_eq_false', gt_iff_lt, ge_iff_le] at h1
    have h4 : t.kind = 4 := h1
    refine RD.opgv (v' := .d (encR _)) rfl (opv_load_ref rfl rfl rfl) rfl ?_
    refine RD.opgv (v' := .d (encR _)) rfl (opv_load_ref rfl rfl rfl) rfl ?_
    refine RD.opgv (v' := .ref 1 1) rfl (opv_field_ref rfl rfl) rfl ?_
    refine RD.opgv (v' := .d (.int _ _)) rfl (opv_load_ref rfl rfl rfl) rfl ?_
    refine RD.opgv (v' := .d (.int _ _)) rfl (opv_callF (rlevel_fn M l hM t.num) rfl rfl rfl trivial) rfl ?_
    refine RD.opgv (v' := .d (.int _ _)) rfl (opv_move rfl) rfl ?_
    refine RD.opgv (v' := .d (.bool _)) rfl (opv_callF (mleq_fn M l hM _ _) rfl rfl rfl trivial) rfl ?_
    refine RD.opgv (v' := .d (.bool _)) rfl (opv_not rfl rfl) rfl ?_
    refine RD.opc (opv_pick rfl rfl) (fun h2 => ?_) (fun h2 => ?_)
    · try simp only [decide_eq_true_eq, decide_eq_false_iff_not, beq_iff_eq, beq_eq_false_iff_ne, bne_iff_ne, bne_eq_false_iff_eq, Int.not_lt, Int.not_le, ne_eq, Bool.not_eq_true', Bool.not_eq_false', gt_iff_lt, ge_iff_le] at h2
      have hq := h2
      refine RD.nil ?_
      refine thenQ_normal ?_
      refine Runs.condT rfl ?_
      refine Runs.has [(2, .d (.int _ _)), (3, .ref 0 0), (4, .ref 1 0), (6, .ref 2 0)] ⟨rfl, rfl, rfl, rfl, trivial⟩ ?_
      refine Runs.rseq ?_
      refine RO.opv (v' := .d (enc _)) (opv_build_term (ks := []) rfl rfl) rfl ?_
      refine RO.opv (v' := .d (encR _)) (opv_load_ref rfl rfl rfl) rfl ?_
      refine RO.opv (v' := .d (.int _ _)) (opv_callF (mtop_fn M l hM) rfl rfl rfl trivial) rfl ?_
      refine RO.opv (v' := .d (enc _)) (opv_callF (rputS_fn (.node 3 0 hole []) _) rfl rfl rfl trivial) rfl ?_
      refine RO.op0n (O' := [_, _, _]) (opv_store_term rfl rfl rfl (Nat.le_of_ble_eq_true rfl)) rfl ?_
      refine RO.nil ?_
      refine Runs.ret ?_
      refine thenQ_ret ?_
      refine EndQ.cell_term (.inr rfl) rfl rfl rfl rfl 0 (by exact Nat.le_refl _) (by exact Nat.zero_le _) ⟨?_, rfl⟩
      refine term_eq ?_; rw [see_eq, if_pos ⟨h4, by simpa using hq⟩]
    · try simp only [decide_eq_true_eq, decide_eq_false_iff_not, beq_iff_eq, beq_eq_false_iff_ne, bne_iff_ne, bne_eq_false_iff_eq, Int.not_lt, Int.not_le, ne_eq, Bool.not_eq_true', Bool.not_eq_false', gt_iff_lt, ge_iff_le] at h2
      have hq := h2
      refine RD.nil ?_
      refine thenQ_normal ?_
      refine Runs.condF rfl ?_
      refine Runs.skip ?_
      refine thenQ_normal ?_
      refine Runs.has [(2, .d (.int _ _)), (3, .ref 0 0), (4, .ref 1 0), (6, .ref 2 0)] ⟨rfl, rfl, rfl, rfl, trivial⟩ ?_
      refine Runs.newbuf 39 4 ?_
      refine Runs.rseq ?_
      refine RO.opv (v' := .ref 1 0) (opv_field_ref rfl rfl) rfl ?_
      refine RO.opv (v' := .d (.int _ _)) (opv_load_ref rfl rfl rfl) rfl ?_
      refine RO.opv (v' := .ref 1 1) (opv_field_ref rfl rfl) rfl ?_
      refine RO.opv (v' := .d (.int _ _)) (opv_load_ref rfl rfl rfl) rfl ?_
      refine RO.opv (v' := .ref 1 2) (opv_field_ref rfl rfl) rfl ?_
      refine RO.opv (v' := .d (.str _)) (opv_load_ref rfl rfl rfl) rfl ?_
      refine RO.opv (v' := .agg _) (opv_build_own 3 3 rfl rfl rfl) rfl ?_
      refine RO.opn (v' := .ref 4 0) (O' := [_, _, _, _, _]) (opv_alloc) rfl rfl ?_
      refine RO.op0n (O' := [_, _, _, _, _]) (opv_store_ref rfl rfl rfl rfl rfl (Nat.le_of_ble_eq_true rfl) rfl) rfl ?_
      refine RO.nil ?_
      refine Runs.has [(2, .d (.int _ _)), (3, .ref 0 0), (4, .ref 1 0), (6, .ref 2 0), (7, .ref 4 0)] ⟨rfl, rfl, rfl, rfl, rfl, trivial⟩ ?_
      refine Runs.seq ?_
      refine Runs.rseq ?_
      refine RO.opv (v' := .d (.int _ _)) (opv_assign rfl) rfl ?_
      refine RO.nil ?_
      refine Runs.block ?_
      refine Runs.loopC (X := Nat) (fun i => i ≤ t.kids.length) (fun i => t.kids.length - i) [(2, .d (.int _ _)), (3, .ref 0 0), (4, .ref 1 0), (6, .ref 2 0), (7, .ref 4 0)] (fun i => [(8, .d (.int .i64 (i : Nat)))]) [_, _, _] (fun i => [.buf 39 4 (encs (sees l lv (t.kids.take i))) i, .cells [.d (.int .i64 t.kind), .d (.int .i64 t.num), .d (.str t.name), .own 3 i]]) (0) ⟨rfl, rfl, rfl, rfl, rfl, trivial⟩ ⟨rfl, trivial⟩ rfl (by omega) fun i hi => ?_
      refine Runs.seq ?_
      refine Runs.rseq ?_
      refine RO.opv (v' := .d (.int _ _)) (opv_move rfl) rfl ?_
      refine RO.opv (v' := .ref 1 3) (opv_field_ref rfl rfl) rfl ?_
      refine RO.opv (v' := .d (.list (encs _))) (opv_load_ref rfl rfl rfl) rfl ?_
      refine RO.opv (v' := .d (.int _ _)) (opv_len_terms rfl) rfl ?_
      refine RO.opc (opv_bin rfl rfl rfl) (fun h3 => ?_) (fun h3 => ?_)
      · try simp only [decide_eq_true_eq, decide_eq_false_iff_not, beq_iff_eq, beq_eq_false_iff_ne, bne_iff_ne, bne_eq_false_iff_eq, Int.not_lt, Int.not_le, ne_eq, Bool.not_eq_true', Bool.not_eq_false', gt_iff_lt, ge_iff_le] at h3
        have hk : i < t.kids.length := by omega
        refine RO.nil ?_
        refine Runs.condT rfl ?_
        refine Runs.skip ?_
        refine thenQ_normal ?_
        refine Runs.has [(2, .d (.int _ _)), (3, .ref 0 0), (4, .ref 1 0), (6, .ref 2 0), (7, .ref 4 0), (8, .d (.int _ _))] ⟨rfl, rfl, rfl, rfl, rfl, rfl, trivial⟩ ?_
        refine Runs.seq ?_
        refine Runs.block ?_
        refine Runs.drawn (by kernel_rfl) [] [false, false, false, false, false, false, false, false, false, false, false, false, false, false] [false, false, false, false, false, false, false, false, false, false, false, true, false, true] (by decide +kernel) ?_
        refine RD.opv (v' := .ref 4 3) (opv_field_ref rfl rfl) rfl ?_
        refine RD.opv (v' := .own 3 _) (opv_load_ref rfl rfl rfl) rfl ?_
        refine RD.opv (v' := .d (encR _)) (opv_load_ref rfl rfl rfl) rfl ?_
        refine RD.opv (v' := .ref 1 3) (opv_field_ref rfl rfl) rfl ?_
        refine RD.opv (v' := .d (.list (encs _))) (opv_load_ref rfl rfl rfl) rfl ?_
        refine RD.opv (v' := .d (.int _ _)) (opv_move rfl) rfl ?_
        refine RD.opv (v' := .d (.ptr _)) (opv_index_terms rfl rfl (by omega)) rfl ?_
        refine RD.opv (v' := .d (enc _)) (opv_load_pterm rfl) rfl ?_
        refine RD.opv (v' := .d (.int _ _)) (opv_move rfl) rfl ?_
        refine RD.opv (v' := .d (enc _)) (opv_callF (ih t.kids[i] (by have := sizes_mem (List.getElem_mem (l := t.kids) (n := i) hk); omega) (by have := bulks_mem (List.getElem_mem (l := t.kids) (n := i) hk); omega)) rfl rfl rfl trivial) rfl ?_
        refine RD.opv (v' := .d (.list (encs _))) (opv_bs_term1 rfl ) rfl ?_
        refine RD.opn (v' := .own 3 _) (O' := [_, _, _, _, _]) (opv_append_terms rfl rfl rfl (by rw [sees_len]; simp; omega)) rfl rfl trivial ?_
        refine RD.opv (v' := .ref 4 3) (opv_field_ref rfl rfl) rfl ?_
        refine RD.op0n (O' := [_, _, _, _, _]) (opv_store_ref rfl rfl rfl rfl rfl (Nat.le_of_ble_eq_true rfl) rfl) rfl trivial ?_
        refine RD.nil ?_
        refine blockQ_normal ?_
        refine thenQ_normal ?_
        refine Runs.has [(2, .d (.int _ _)), (3, .ref 0 0), (4, .ref 1 0), (6, .ref 2 0), (7, .ref 4 0), (8, .d (.int _ _))] ⟨rfl, rfl, rfl, rfl, rfl, rfl, trivial⟩ ?_
        refine Runs.region ?_
        refine RO.opv (v' := .d (.int _ _)) (opv_move rfl) rfl ?_
        refine RO.opv (v' := .d (.int _ _)) (opv_bin rfl rfl rfl) rfl ?_
        refine RO.opv (v' := .d (.int _ _)) (opv_assign rfl) rfl ?_
        refine RO.nil ?_
        refine thenQ_normal ?_
        refine ⟨i+1, 5, (by rw [hK]; exact Nat.le_of_ble_eq_true rfl), ⟨rfl, rfl, rfl, rfl, rfl, trivial⟩, ⟨?_, trivial⟩, ?_, ?_, ?_⟩
        · refine int_eq ?_; rw [wrap64 (by omega) (by omega)]; omega
        · rw [sees_take hk]; rfl
        · omega
        · omega
      · try simp only [decide_eq_true_eq, decide_eq_false_iff_not, beq_iff_eq, beq_eq_false_iff_ne, bne_iff_ne, bne_eq_false_iff_eq, Int.not_lt, Int.not_le, ne_eq, Bool.not_eq_true', Bool.not_eq_false', gt_iff_lt, ge_iff_le] at h3
        have hk : i = t.kids.length := by omega
        refine RO.nil ?_
        refine Runs.condF rfl ?_
        refine Runs.exit ?_
        refine thenQ_exit ?_
        refine thenQ_exit ?_
        refine blockQ_here ?_
        refine thenQ_normal ?_
        refine Runs.has [(6, .ref 2 0), (7, .ref 4 0)] ⟨rfl, rfl, trivial⟩ ?_
        refine Runs.shutC 4 3 rfl rfl rfl ?_
        refine Runs.rseq ?_
        refine RO.opv (v' := .d (enc _)) (opv_load_node rfl rfl rfl rfl) rfl ?_
        refine RO.op0n (O' := [_, _, _, _, _]) (opv_store_term rfl rfl rfl (Nat.le_of_ble_eq_true rfl)) rfl ?_
        refine RO.nil ?_
        refine Runs.ret ?_
        refine EndQ.cell_term (.inr rfl) rfl rfl rfl rfl 0 (by exact Nat.le_refl _) (by exact Nat.zero_le _) ⟨?_, rfl⟩
        refine term_eq ?_; rw [see_eq, if_neg (by simp_all), hk, List.take_length]
  · try simp only [decide_eq_true_eq, decide_eq_false_iff_not, beq_iff_eq, beq_eq_false_iff_ne, bne_iff_ne, bne_eq_false_iff_eq, Int.not_lt, Int.not_le, ne_eq, Bool.not_eq_true', Bool.not_eq_false', gt_iff_lt, ge_iff_le] at h1
    have h4 : ¬ t.kind = 4 := h1
    refine RD.off rfl ?_
    refine RD.off rfl ?_
    refine RD.off rfl ?_
    refine RD.off rfl ?_
    refine RD.off rfl ?_
    refine RD.off rfl ?_
    refine RD.off rfl ?_
    refine RD.off rfl ?_
    refine RD.opv (v' := .d (.bool false)) (opv_pick rfl rfl) rfl ?_
    refine RD.nil ?_
    refine thenQ_normal ?_
    refine Runs.condF rfl ?_
    refine Runs.skip ?_
    refine thenQ_normal ?_
    refine Runs.has [(2, .d (.int _ _)), (3, .ref 0 0), (4, .ref 1 0), (6, .ref 2 0)] ⟨rfl, rfl, rfl, rfl, trivial⟩ ?_
    refine Runs.newbuf 39 4 ?_
    refine Runs.rseq ?_
    refine RO.opv (v' := .ref 1 0) (opv_field_ref rfl rfl) rfl ?_
    refine RO.opv (v' := .d (.int _ _)) (opv_load_ref rfl rfl rfl) rfl ?_
    refine RO.opv (v' := .ref 1 1) (opv_field_ref rfl rfl) rfl ?_
    refine RO.opv (v' := .d (.int _ _)) (opv_load_ref rfl rfl rfl) rfl ?_
    refine RO.opv (v' := .ref 1 2) (opv_field_ref rfl rfl) rfl ?_
    refine RO.opv (v' := .d (.str _)) (opv_load_ref rfl rfl rfl) rfl ?_
    refine RO.opv (v' := .agg _) (opv_build_own 3 3 rfl rfl rfl) rfl ?_
    refine RO.opn (v' := .ref 4 0) (O' := [_, _, _, _, _]) (opv_alloc) rfl rfl ?_
    refine RO.op0n (O' := [_, _, _, _, _]) (opv_store_ref rfl rfl rfl rfl rfl (Nat.le_of_ble_eq_true rfl) rfl) rfl ?_
    refine RO.nil ?_
    refine Runs.has [(2, .d (.int _ _)), (3, .ref 0 0), (4, .ref 1 0), (6, .ref 2 0), (7, .ref 4 0)] ⟨rfl, rfl, rfl, rfl, rfl, trivial⟩ ?_
    refine Runs.seq ?_
    refine Runs.rseq ?_
    refine RO.opv (v' := .d (.int _ _)) (opv_assign rfl) rfl ?_
    refine RO.nil ?_
    refine Runs.block ?_
    refine Runs.loopC (X := Nat) (fun i => i ≤ t.kids.length) (fun i => t.kids.length - i) [(2, .d (.int _ _)), (3, .ref 0 0), (4, .ref 1 0), (6, .ref 2 0), (7, .ref 4 0)] (fun i => [(8, .d (.int .i64 (i : Nat)))]) [_, _, _] (fun i => [.buf 39 4 (encs (sees l lv (t.kids.take i))) i, .cells [.d (.int .i64 t.kind), .d (.int .i64 t.num), .d (.str t.name), .own 3 i]]) (0) ⟨rfl, rfl, rfl, rfl, rfl, trivial⟩ ⟨rfl, trivial⟩ rfl (by omega) fun i hi => ?_
    refine Runs.seq ?_
    refine Runs.rseq ?_
    refine RO.opv (v' := .d (.int _ _)) (opv_move rfl) rfl ?_
    refine RO.opv (v' := .ref 1 3) (opv_field_ref rfl rfl) rfl ?_
    refine RO.opv (v' := .d (.list (encs _))) (opv_load_ref rfl rfl rfl) rfl ?_
    refine RO.opv (v' := .d (.int _ _)) (opv_len_terms rfl) rfl ?_
    refine RO.opc (opv_bin rfl rfl rfl) (fun h4 => ?_) (fun h4 => ?_)
    · try simp only [decide_eq_true_eq, decide_eq_false_iff_not, beq_iff_eq, beq_eq_false_iff_ne, bne_iff_ne, bne_eq_false_iff_eq, Int.not_lt, Int.not_le, ne_eq, Bool.not_eq_true', Bool.not_eq_false', gt_iff_lt, ge_iff_le] at h4
      have hk : i < t.kids.length := by omega
      refine RO.nil ?_
      refine Runs.condT rfl ?_
      refine Runs.skip ?_
      refine thenQ_normal ?_
      refine Runs.has [(2, .d (.int _ _)), (3, .ref 0 0), (4, .ref 1 0), (6, .ref 2 0), (7, .ref 4 0), (8, .d (.int _ _))] ⟨rfl, rfl, rfl, rfl, rfl, rfl, trivial⟩ ?_
      refine Runs.seq ?_
      refine Runs.block ?_
      refine Runs.drawn (by kernel_rfl) [] [false, false, false, false, false, false, false, false, false, false, false, false, false, false] [false, false, false, false, false, false, false, false, false, false, false, true, false, true] (by decide +kernel) ?_
      refine RD.opv (v' := .ref 4 3) (opv_field_ref rfl rfl) rfl ?_
      refine RD.opv (v' := .own 3 _) (opv_load_ref rfl rfl rfl) rfl ?_
      refine RD.opv (v' := .d (encR _)) (opv_load_ref rfl rfl rfl) rfl ?_
      refine RD.opv (v' := .ref 1 3) (opv_field_ref rfl rfl) rfl ?_
      refine RD.opv (v' := .d (.list (encs _))) (opv_load_ref rfl rfl rfl) rfl ?_
      refine RD.opv (v' := .d (.int _ _)) (opv_move rfl) rfl ?_
      refine RD.opv (v' := .d (.ptr _)) (opv_index_terms rfl rfl (by omega)) rfl ?_
      refine RD.opv (v' := .d (enc _)) (opv_load_pterm rfl) rfl ?_
      refine RD.opv (v' := .d (.int _ _)) (opv_move rfl) rfl ?_
      refine RD.opv (v' := .d (enc _)) (opv_callF (ih t.kids[i] (by have := sizes_mem (List.getElem_mem (l := t.kids) (n := i) hk); omega) (by have := bulks_mem (List.getElem_mem (l := t.kids) (n := i) hk); omega)) rfl rfl rfl trivial) rfl ?_
      refine RD.opv (v' := .d (.list (encs _))) (opv_bs_term1 rfl ) rfl ?_
      refine RD.opn (v' := .own 3 _) (O' := [_, _, _, _, _]) (opv_append_terms rfl rfl rfl (by rw [sees_len]; simp; omega)) rfl rfl trivial ?_
      refine RD.opv (v' := .ref 4 3) (opv_field_ref rfl rfl) rfl ?_
      refine RD.op0n (O' := [_, _, _, _, _]) (opv_store_ref rfl rfl rfl rfl rfl (Nat.le_of_ble_eq_true rfl) rfl) rfl trivial ?_
      refine RD.nil ?_
      refine blockQ_normal ?_
      refine thenQ_normal ?_
      refine Runs.has [(2, .d (.int _ _)), (3, .ref 0 0), (4, .ref 1 0), (6, .ref 2 0), (7, .ref 4 0), (8, .d (.int _ _))] ⟨rfl, rfl, rfl, rfl, rfl, rfl, trivial⟩ ?_
      refine Runs.region ?_
      refine RO.opv (v' := .d (.int _ _)) (opv_move rfl) rfl ?_
      refine RO.opv (v' := .d (.int _ _)) (opv_bin rfl rfl rfl) rfl ?_
      refine RO.opv (v' := .d (.int _ _)) (opv_assign rfl) rfl ?_
      refine RO.nil ?_
      refine thenQ_normal ?_
      refine ⟨i+1, 5, (by rw [hK]; exact Nat.le_of_ble_eq_true rfl), ⟨rfl, rfl, rfl, rfl, rfl, trivial⟩, ⟨?_, trivial⟩, ?_, ?_, ?_⟩
      · refine int_eq ?_; rw [wrap64 (by omega) (by omega)]; omega
      · rw [sees_take hk]; rfl
      · omega
      · omega
    · try simp only [decide_eq_true_eq, decide_eq_false_iff_not, beq_iff_eq, beq_eq_false_iff_ne, bne_iff_ne, bne_eq_false_iff_eq, Int.not_lt, Int.not_le, ne_eq, Bool.not_eq_true', Bool.not_eq_false', gt_iff_lt, ge_iff_le] at h4
      have hk : i = t.kids.length := by omega
      refine RO.nil ?_
      refine Runs.condF rfl ?_
      refine Runs.exit ?_
      refine thenQ_exit ?_
      refine thenQ_exit ?_
      refine blockQ_here ?_
      refine thenQ_normal ?_
      refine Runs.has [(6, .ref 2 0), (7, .ref 4 0)] ⟨rfl, rfl, trivial⟩ ?_
      refine Runs.shutC 4 3 rfl rfl rfl ?_
      refine Runs.rseq ?_
      refine RO.opv (v' := .d (enc _)) (opv_load_node rfl rfl rfl rfl) rfl ?_
      refine RO.op0n (O' := [_, _, _, _, _]) (opv_store_term rfl rfl rfl (Nat.le_of_ble_eq_true rfl)) rfl ?_
      refine RO.nil ?_
      refine Runs.ret ?_
      refine EndQ.cell_term (.inr rfl) rfl rfl rfl rfl 0 (by exact Nat.le_refl _) (by exact Nat.zero_le _) ⟨?_, rfl⟩
      refine term_eq ?_; rw [see_eq, if_neg (by simp_all), hk, List.take_length]
theorem rseen_fn (M : List (List Bool)) (l : Lt) (hM : Mt M l) (t : Term) (lv : Int) (hb : t.bulk ≤ 2 ^ 30) : Fn Try.prog 16 [.d (encR M), .d (enc t), .d (.int .i64 lv)] [] (.d (enc (t.see l lv))) [] := rsee_aux M l hM lv t.size t (Nat.le_refl _) hb
theorem rplain_fn (ts : List Term) (hb : bulks ts ≤ 2 ^ 30) : Fn Try.prog 19 [.d (.list (encs ts))] [] (.d (.list (encs (plain ts)))) [] := by
  have hL := bulks_len ts
  refine Does.run Try.func19 rfl Try.ntmps19 rfl fun K hK => ?_
  refine Runs.rseq ?_
  refine RO.opv (v' := .nil0) (opv_assign rfl) rfl ?_
  refine RO.nil ?_
  refine Runs.rseq ?_
  refine RO.opv (v' := .nil0) (opv_assign rfl) rfl ?_
  refine RO.nil ?_
  refine Runs.seq ?_
  refine Runs.adopt 3 39 4 rfl ?_
  refine Runs.rseq ?_
  refine RO.opv (v' := .d (.int _ _)) (opv_assign rfl) rfl ?_
  refine RO.nil ?_
  refine Runs.block ?_
  refine Runs.loopC (X := Nat) (fun i => i ≤ ts.length) (fun i => ts.length - i) [(0, .d (.list (encs _))), (2, .nil0)] (fun i => [(3, .own 0 (1 + i)), (4, .d (.int .i64 (i : Nat)))]) [] (fun i => [.buf 39 4 (encs (plain (ts.take i))) (1 + i)]) (0) ⟨rfl, rfl, trivial⟩ ⟨rfl, rfl, trivial⟩ rfl (by omega) fun i hi => ?_
  refine Runs.seq ?_
  refine Runs.rseq ?_
  refine RO.opv (v' := .d (.int _ _)) (opv_move rfl) rfl ?_
  refine RO.opv (v' := .d (.list (encs _))) (opv_move rfl) rfl ?_
  refine RO.opv (v' := .d (.int _ _)) (opv_len_terms rfl) rfl ?_
  refine RO.opc (opv_bin rfl rfl rfl) (fun h1 => ?_) (fun h1 => ?_)
  · try simp only [decide_eq_true_eq, decide_eq_false_iff_not, beq_iff_eq, beq_eq_false_iff_ne, bne_iff_ne, bne_eq_false_iff_eq, Int.not_lt, Int.not_le, ne_eq, Bool.not_eq_true', Bool.not_eq_false', gt_iff_lt, ge_iff_le] at h1
    have hk : i < ts.length := by omega
    have hbi := bulks_mem (List.getElem_mem hk)
    have hUi := ts[i].bulk_kids
    refine RO.nil ?_
    refine Runs.condT rfl ?_
    refine Runs.skip ?_
    refine thenQ_normal ?_
    refine Runs.has [(0, .d (.list (encs _))), (2, .nil0), (3, .own 0 _), (4, .d (.int _ _))] ⟨rfl, rfl, rfl, rfl, trivial⟩ ?_
    refine Runs.seq ?_
    refine Runs.block ?_
    refine Runs.rseq ?_
    refine RO.opv (v' := .d (.list (encs _))) (opv_move rfl) rfl ?_
    refine RO.opv (v' := .d (.int _ _)) (opv_move rfl) rfl ?_
    refine RO.opv (v' := .d (.ptr _)) (opv_index_terms rfl rfl (by omega)) rfl ?_
    refine RO.opv (v' := .d (enc _)) (opv_load_pterm rfl) rfl ?_
    refine RO.opc (opv_callF (rlab_fn ts[i]) rfl rfl rfl trivial) (fun h2 => ?_) (fun h2 => ?_)
    · try simp only [decide_eq_true_eq, decide_eq_false_iff_not, beq_iff_eq, beq_eq_false_iff_ne, bne_iff_ne, bne_eq_false_iff_eq, Int.not_lt, Int.not_le, ne_eq, Bool.not_eq_true', Bool.not_eq_false', gt_iff_lt, ge_iff_le] at h2
      have hl := h2
      have hk1 : 1 < ts[i].kids.length := by have := (lab_iff.1 h2).2.2; omega
      have hbk := bulks_mem (List.getElem_mem hk1)
      refine RO.nil ?_
      refine Runs.condT rfl ?_
      refine Runs.has [(0, .d (.list (encs _))), (2, .nil0), (3, .own 0 _), (4, .d (.int _ _))] ⟨rfl, rfl, rfl, rfl, trivial⟩ ?_
      refine Runs.region ?_
      refine RO.opv (v' := .own 0 _) (opv_move rfl) rfl ?_
      refine RO.opv (v' := .d (.list (encs _))) (opv_move rfl) rfl ?_
      refine RO.opv (v' := .d (.int _ _)) (opv_move rfl) rfl ?_
      refine RO.opv (v' := .d (.ptr _)) (opv_index_terms rfl rfl (by omega)) rfl ?_
      refine RO.opv (v' := .d (.ptr _)) (opv_field_ptr rfl) rfl ?_
      refine RO.opv (v' := .d (.list (encs _))) (opv_load_ptr rfl rfl) rfl ?_
      refine RO.opv (v' := .d (.ptr _)) (opv_index_terms (i := 1) rfl rfl hk1) rfl ?_
      refine RO.opv (v' := .d (enc _)) (opv_load_pterm rfl) rfl ?_
      refine RO.opv (v' := .d (enc _)) (opv_callF (rerase_fn ts[i].kids[1] (by omega)) rfl rfl rfl trivial) rfl ?_
      refine RO.opv (v' := .d (.list (encs _))) (opv_bs_term1 rfl ) rfl ?_
      refine RO.opn (v' := .own 0 _) (O' := [_]) (opv_append_terms rfl rfl rfl (by rw [plain_len]; simp; omega)) rfl rfl ?_
      refine RO.opv (v' := .own 0 _) (opv_assign rfl) rfl ?_
      refine RO.nil ?_
      refine blockQ_normal ?_
      refine thenQ_normal ?_
      refine Runs.has [(0, .d (.list (encs _))), (2, .nil0), (3, .own 0 _), (4, .d (.int _ _))] ⟨rfl, rfl, rfl, rfl, trivial⟩ ?_
      refine Runs.region ?_
      refine RO.opv (v' := .d (.int _ _)) (opv_move rfl) rfl ?_
      refine RO.opv (v' := .d (.int _ _)) (opv_bin rfl rfl rfl) rfl ?_
      refine RO.opv (v' := .d (.int _ _)) (opv_assign rfl) rfl ?_
      refine RO.nil ?_
      refine thenQ_normal ?_
      refine ⟨i+1, 1, (by rw [hK]; exact Nat.le_of_ble_eq_true rfl), ⟨rfl, rfl, trivial⟩, ⟨?_, ?_, trivial⟩, ?_, ?_, ?_⟩
      · rfl
      · refine int_eq ?_; rw [wrap64 (by omega) (by omega)]; omega
      · rw [plain_take hk]; first | (rw [plain1_lab hl hk1]; rfl) | (rw [plain1_no hl]; rfl)
      · omega
      · omega
    · try simp only [decide_eq_true_eq, decide_eq_false_iff_not, beq_iff_eq, beq_eq_false_iff_ne, bne_iff_ne, bne_eq_false_iff_eq, Int.not_lt, Int.not_le, ne_eq, Bool.not_eq_true', Bool.not_eq_false', gt_iff_lt, ge_iff_le] at h2
      have hl := h2
      refine RO.nil ?_
      refine Runs.condF rfl ?_
      refine Runs.has [(0, .d (.list (encs _))), (2, .nil0), (3, .own 0 _), (4, .d (.int _ _))] ⟨rfl, rfl, rfl, rfl, trivial⟩ ?_
      refine Runs.region ?_
      refine RO.opv (v' := .own 0 _) (opv_move rfl) rfl ?_
      refine RO.opv (v' := .d (.list (encs _))) (opv_move rfl) rfl ?_
      refine RO.opv (v' := .d (.int _ _)) (opv_move rfl) rfl ?_
      refine RO.opv (v' := .d (.ptr _)) (opv_index_terms rfl rfl (by omega)) rfl ?_
      refine RO.opv (v' := .d (enc _)) (opv_load_pterm rfl) rfl ?_
      refine RO.opv (v' := .d (enc _)) (opv_callF (rerase_fn ts[i] (by omega)) rfl rfl rfl trivial) rfl ?_
      refine RO.opv (v' := .d (.list (encs _))) (opv_bs_term1 rfl ) rfl ?_
      refine RO.opn (v' := .own 0 _) (O' := [_]) (opv_append_terms rfl rfl rfl (by rw [plain_len]; simp; omega)) rfl rfl ?_
      refine RO.opv (v' := .own 0 _) (opv_assign rfl) rfl ?_
      refine RO.nil ?_
      refine blockQ_normal ?_
      refine thenQ_normal ?_
      refine Runs.has [(0, .d (.list (encs _))), (2, .nil0), (3, .own 0 _), (4, .d (.int _ _))] ⟨rfl, rfl, rfl, rfl, trivial⟩ ?_
      refine Runs.region ?_
      refine RO.opv (v' := .d (.int _ _)) (opv_move rfl) rfl ?_
      refine RO.opv (v' := .d (.int _ _)) (opv_bin rfl rfl rfl) rfl ?_
      refine RO.opv (v' := .d (.int _ _)) (opv_assign rfl) rfl ?_
      refine RO.nil ?_
      refine thenQ_normal ?_
      refine ⟨i+1, 1, (by rw [hK]; exact Nat.le_of_ble_eq_true rfl), ⟨rfl, rfl, trivial⟩, ⟨?_, ?_, trivial⟩, ?_, ?_, ?_⟩
      · rfl
      · refine int_eq ?_; rw [wrap64 (by omega) (by omega)]; omega
      · rw [plain_take hk]; first | (rw [plain1_lab hl hk1]; rfl) | (rw [plain1_no hl]; rfl)
      · omega
      · omega
  · try simp only [decide_eq_true_eq, decide_eq_false_iff_not, beq_iff_eq, beq_eq_false_iff_ne, bne_iff_ne, bne_eq_false_iff_eq, Int.not_lt, Int.not_le, ne_eq, Bool.not_eq_true', Bool.not_eq_false', gt_iff_lt, ge_iff_le] at h1
    have hk : i = ts.length := by omega
    refine RO.nil ?_
    refine Runs.condF rfl ?_
    refine Runs.exit ?_
    refine thenQ_exit ?_
    refine thenQ_exit ?_
    refine blockQ_here ?_
    refine thenQ_normal ?_
    refine Runs.has [(2, .nil0), (3, .own 0 _)] ⟨rfl, rfl, trivial⟩ ?_
    refine Runs.shut 3 rfl rfl ?_
    refine Runs.rseq ?_
    refine RO.opv (v' := .d (.list (encs _))) (opv_move rfl) rfl ?_
    refine RO.opv (v' := .d (.list (encs _))) (opv_assign rfl) rfl ?_
    refine RO.nil ?_
    refine Runs.ret ?_
    refine EndQ.tmp (.inr rfl) rfl rfl 0 (by exact Nat.le_refl _) (by exact Nat.zero_le _) trivial ⟨?_, rfl⟩
    refine terms_eq ?_; rw [hk, List.take_length]
theorem rlow_fn (M : List (List Bool)) (l : Lt) (hM : Mt M l) (ts : List Term) (lv : Int) (hb : bulks ts ≤ 2 ^ 30) : Fn Try.prog 21 [.d (encR M), .d (.list (encs ts)), .d (.int .i64 lv)] [] (.d (.list (encs (low l lv ts)))) [] := by
  have hL := bulks_len ts
  have hMl := hM.sq.1
  refine Does.run Try.func21 rfl Try.ntmps21 rfl fun K hK => ?_
  refine Runs.rseq ?_
  refine RO.opn (v' := .ref 0 0) (O' := [_]) (opv_box rfl rfl) rfl rfl ?_
  refine RO.opv (v' := .nil0) (opv_assign rfl) rfl ?_
  refine RO.nil ?_
  refine Runs.has [(1, .d (.list (encs _))), (2, .d (.int _ _)), (3, .ref 0 0), (6, .nil0)] ⟨rfl, rfl, rfl, rfl, trivial⟩ ?_
  refine Runs.rseq ?_
  refine RO.opv (v' := .nil0) (opv_assign rfl) rfl ?_
  refine RO.nil ?_
  refine Runs.seq ?_
  refine Runs.adopt 7 39 4 rfl ?_
  refine Runs.rseq ?_
  refine RO.opv (v' := .d (.int _ _)) (opv_assign rfl) rfl ?_
  refine RO.nil ?_
  refine Runs.block ?_
  refine Runs.loopC (X := (Nat × Nat)) (fun x => x.1 ≤ ts.length) (fun x => ts.length - x.1) [(1, .d (.list (encs _))), (2, .d (.int _ _)), (3, .ref 0 0), (6, .nil0)] (fun x => [(7, .own 1 (1 + x.2)), (8, .d (.int .i64 (x.1 : Nat)))]) [_] (fun x => [.buf 39 4 (encs (low l lv (ts.take x.1))) (1 + x.2)]) (((0 : Nat), (0 : Nat))) ⟨rfl, rfl, rfl, rfl, trivial⟩ ⟨rfl, rfl, trivial⟩ rfl (Nat.zero_le _) fun x hi => ?_
  refine Runs.seq ?_
  refine Runs.rseq ?_
  refine RO.opv (v' := .d (.int _ _)) (opv_move rfl) rfl ?_
  refine RO.opv (v' := .d (.list (encs _))) (opv_move rfl) rfl ?_
  refine RO.opv (v' := .d (.int _ _)) (opv_len_terms rfl) rfl ?_
  refine RO.opc (opv_bin rfl rfl rfl) (fun h1 => ?_) (fun h1 => ?_)
  · try simp only [decide_eq_true_eq, decide_eq_false_iff_not, beq_iff_eq, beq_eq_false_iff_ne, bne_iff_ne, bne_eq_false_iff_eq, Int.not_lt, Int.not_le, ne_eq, Bool.not_eq_true', Bool.not_eq_false', gt_iff_lt, ge_iff_le] at h1
    have hk : x.1 < ts.length := by omega
    have hbi := bulks_mem (List.getElem_mem hk)
    refine RO.nil ?_
    refine Runs.condT rfl ?_
    refine Runs.skip ?_
    refine thenQ_normal ?_
    refine Runs.has [(1, .d (.list (encs _))), (2, .d (.int _ _)), (3, .ref 0 0), (6, .nil0), (7, .own 1 _), (8, .d (.int _ _))] ⟨rfl, rfl, rfl, rfl, rfl, rfl, trivial⟩ ?_
    refine Runs.seq ?_
    refine Runs.block ?_
    refine Runs.rseq ?_
    refine RO.opv (v' := .d (.list (encs _))) (opv_move rfl) rfl ?_
    refine RO.opv (v' := .d (.int _ _)) (opv_move rfl) rfl ?_
    refine RO.opv (v' := .d (.ptr _)) (opv_index_terms rfl rfl (by omega)) rfl ?_
    refine RO.opv (v' := .d (enc _)) (opv_load_pterm rfl) rfl ?_
    refine RO.opn (v' := .ref 2 0) (O' := [_, _, _]) (opv_alloc) rfl rfl ?_
    refine RO.op0n (O' := [_, _, _]) (opv_store_term rfl rfl rfl (Nat.le_of_ble_eq_true rfl)) rfl ?_
    refine RO.nil ?_
    refine Runs.has [(1, .d (.list (encs _))), (2, .d (.int _ _)), (3, .ref 0 0), (6, .nil0), (7, .own 1 _), (8, .d (.int _ _)), (9, .ref 2 0)] ⟨rfl, rfl, rfl, rfl, rfl, rfl, rfl, trivial⟩ ?_
    refine Runs.seq ?_
    refine Runs.seq ?_
    refine Runs.drawn (by kernel_rfl) [] [false, false, false, false, false, false, false, false, false, false, false, false, false, false, false, false, false, false, false, false, false, false, false, false, false, false, false, false, false, false, false, false, false, false, false, false, false, false, false, false] [false, false, false, false, false, false, false, false, false, false, false, false, false, false, false, false, false, false, false, false, false, false, false, false, false, false, false, false, false, false, false, false, false, false, false, false, false, false, false, false] (by decide +kernel) ?_
    refine RD.opv (v' := .d (enc _)) (opv_load_term rfl rfl rfl) rfl ?_
    refine RD.opv (v' := .d (.bool _)) (opv_callF (rlab_fn ts[x.1]) rfl rfl rfl trivial) rfl ?_
    refine RD.opc (opv_move rfl) (fun h2 => ?_) (fun h2 => ?_)
    · try simp only [decide_eq_true_eq, decide_eq_false_iff_not, beq_iff_eq, beq_eq_false_iff_ne, bne_iff_ne, bne_eq_false_iff_eq, Int.not_lt, Int.not_le, ne_eq, Bool.not_eq_true', Bool.not_eq_false', gt_iff_lt, ge_iff_le] at h2
      have hl := h2
      have hk0 : 0 < ts[x.1].kids.length := by have := (lab_iff.1 h2).2.2; omega
      refine RD.opgv (v' := .ref 2 3) rfl (opv_field_ref rfl rfl) rfl ?_
      refine RD.opgv (v' := .d (.list (encs _))) rfl (opv_load_ref rfl rfl rfl) rfl ?_
      refine RD.opgv (v' := .d (.ptr _)) rfl (opv_index_terms (i := 0) rfl rfl hk0) rfl ?_
      refine RD.opgv (v' := .d (.ptr _)) rfl (opv_field_ptr rfl) rfl ?_
      refine RD.opgv (v' := .d (.int _ _)) rfl (opv_load_ptr rfl rfl) rfl ?_
      refine RD.opgv (v' := .d (.bool _)) rfl (opv_bin rfl rfl rfl) rfl ?_
      refine RD.opv (v' := .d (.bool _)) (opv_pick rfl rfl) rfl ?_
      refine RD.opc (opv_move rfl) (fun h3 => ?_) (fun h3 => ?_)
      · try simp only [decide_eq_true_eq, decide_eq_false_iff_not, beq_iff_eq, beq_eq_false_iff_ne, bne_iff_ne, bne_eq_false_iff_eq, Int.not_lt, Int.not_le, ne_eq, Bool.not_eq_true', Bool.not_eq_false', gt_iff_lt, ge_iff_le] at h3
        have e1 := decide_eq_true h3
        refine RD.opgv (v' := .ref 2 3) rfl (opv_field_ref rfl rfl) rfl ?_
        refine RD.opgv (v' := .d (.list (encs _))) rfl (opv_load_ref rfl rfl rfl) rfl ?_
        refine RD.opgv (v' := .d (.ptr _)) rfl (opv_index_terms (i := 0) rfl rfl hk0) rfl ?_
        refine RD.opgv (v' := .d (.ptr _)) rfl (opv_field_ptr rfl) rfl ?_
        refine RD.opgv (v' := .d (.int _ _)) rfl (opv_load_ptr rfl rfl) rfl ?_
        refine RD.opgv (v' := .d (.bool _)) rfl (opv_bin rfl rfl rfl) rfl ?_
        refine RD.opv (v' := .d (.bool _)) (opv_pick rfl rfl) rfl ?_
        refine RD.opc (opv_move rfl) (fun h4 => ?_) (fun h4 => ?_)
        · try simp only [decide_eq_true_eq, decide_eq_false_iff_not, beq_iff_eq, beq_eq_false_iff_ne, bne_iff_ne, bne_eq_false_iff_eq, Int.not_lt, Int.not_le, ne_eq, Bool.not_eq_true', Bool.not_eq_false', gt_iff_lt, ge_iff_le] at h4
          have e2 := decide_eq_true h4
          refine RD.opgv (v' := .ref 2 3) rfl (opv_field_ref rfl rfl) rfl ?_
          refine RD.opgv (v' := .d (.list (encs _))) rfl (opv_load_ref rfl rfl rfl) rfl ?_
          refine RD.opgv (v' := .d (.ptr _)) rfl (opv_index_terms (i := 0) rfl rfl hk0) rfl ?_
          refine RD.opgv (v' := .d (.ptr _)) rfl (opv_field_ptr rfl) rfl ?_
          refine RD.opgv (v' := .d (.int _ _)) rfl (opv_load_ptr rfl rfl) rfl ?_
          refine RD.opgv (v' := .ref 0 0) rfl (opv_field_ref rfl rfl) rfl ?_
          refine RD.opgv (v' := .d (.list (rowsD _))) rfl (opv_load_ref rfl rfl rfl) rfl ?_
          refine RD.opgv (v' := .d (.int _ _)) rfl (opv_len_rows rfl) rfl ?_
          refine RD.opgv (v' := .d (.bool _)) rfl (opv_bin rfl rfl rfl) rfl ?_
          refine RD.opv (v' := .d (.bool _)) (opv_pick rfl rfl) rfl ?_
          refine RD.opc (opv_move rfl) (fun h5 => ?_) (fun h5 => ?_)
          · try simp only [decide_eq_true_eq, decide_eq_false_iff_not, beq_iff_eq, beq_eq_false_iff_ne, bne_iff_ne, bne_eq_false_iff_eq, Int.not_lt, Int.not_le, ne_eq, Bool.not_eq_true', Bool.not_eq_false', gt_iff_lt, ge_iff_le] at h5
            have e3 : decide (ts[x.1].kids[0].num < ((l.n : Nat) : Int)) = true := decide_eq_true (by omega)
            refine RD.opgv (v' := .d (encR _)) rfl (opv_load_ref rfl rfl rfl) rfl ?_
            refine RD.opgv (v' := .ref 2 3) rfl (opv_field_ref rfl rfl) rfl ?_
            refine RD.opgv (v' := .d (.list (encs _))) rfl (opv_load_ref rfl rfl rfl) rfl ?_
            refine RD.opgv (v' := .d (.ptr _)) rfl (opv_index_terms (i := 0) rfl rfl hk0) rfl ?_
            refine RD.opgv (v' := .d (.ptr _)) rfl (opv_field_ptr rfl) rfl ?_
            refine RD.opgv (v' := .d (.int _ _)) rfl (opv_load_ptr rfl rfl) rfl ?_
            refine RD.opgv (v' := .d (.int _ _)) rfl (opv_move rfl) rfl ?_
            refine RD.opgv (v' := .d (.bool _)) rfl (opv_callF (mleq_fn M l hM _ _) rfl rfl rfl trivial) rfl ?_
            refine RD.opgv (v' := .d (.bool _)) rfl (opv_not rfl rfl) rfl ?_
            refine RD.opc (opv_pick rfl rfl) (fun h6 => ?_) (fun h6 => ?_)
            · try simp only [decide_eq_true_eq, decide_eq_false_iff_not, beq_iff_eq, beq_eq_false_iff_ne, bne_iff_ne, bne_eq_false_iff_eq, Int.not_lt, Int.not_le, ne_eq, Bool.not_eq_true', Bool.not_eq_false', gt_iff_lt, ge_iff_le] at h6
              have e4 := h6
              refine RD.nil ?_
              refine thenQ_normal ?_
              refine Runs.condT rfl ?_
              refine Runs.exit ?_
              refine thenQ_exit ?_
              refine blockQ_here ?_
              refine thenQ_normal ?_
              refine Runs.has [(1, .d (.list (encs _))), (2, .d (.int _ _)), (3, .ref 0 0), (6, .nil0), (7, .own 1 _), (8, .d (.int _ _))] ⟨rfl, rfl, rfl, rfl, rfl, rfl, trivial⟩ ?_
              refine Runs.region ?_
              refine RO.opv (v' := .d (.int _ _)) (opv_move rfl) rfl ?_
              refine RO.opv (v' := .d (.int _ _)) (opv_bin rfl rfl rfl) rfl ?_
              refine RO.opv (v' := .d (.int _ _)) (opv_assign rfl) rfl ?_
              refine RO.nil ?_
              refine thenQ_normal ?_
              refine ⟨(x.1 + 1, x.2), 2, (by rw [hK]; exact Nat.le_of_ble_eq_true rfl), ⟨rfl, rfl, rfl, rfl, trivial⟩, ⟨?_, ?_, trivial⟩, ?_, ?_, ?_⟩
              · rfl
              · refine int_eq ?_; rw [wrap64 (by omega) (by omega)]; omega
              · first | (rw [low_in hk (by first | exact hid_no hl | (rw [hid_lab hl hk0]; simp only [hid1, *, Bool.true_and, Bool.false_and, decide_true, decide_false, Bool.not_true, Bool.not_false]; done))]; rfl) | (rw [low_out hk (by rw [hid_lab hl hk0]; simp only [hid1, *, Bool.true_and, decide_true, Bool.not_false]; done)]; rfl)
              · show x.1 + 1 ≤ _; omega
              · show ts.length - (x.1 + 1) < _; omega
            · try simp only [decide_eq_true_eq, decide_eq_false_iff_not, beq_iff_eq, beq_eq_false_iff_ne, bne_iff_ne, bne_eq_false_iff_eq, Int.not_lt, Int.not_le, ne_eq, Bool.not_eq_true', Bool.not_eq_false', gt_iff_lt, ge_iff_le] at h6
              have e4 := h6
              refine RD.nil ?_
              refine thenQ_normal ?_
              refine Runs.condF rfl ?_
              refine Runs.skip ?_
              refine thenQ_normal ?_
              refine Runs.has [(1, .d (.list (encs _))), (2, .d (.int _ _)), (3, .ref 0 0), (6, .nil0), (7, .own 1 _), (8, .d (.int _ _)), (9, .ref 2 0)] ⟨rfl, rfl, rfl, rfl, rfl, rfl, rfl, trivial⟩ ?_
              refine Runs.region ?_
              refine RO.opv (v' := .own 1 _) (opv_move rfl) rfl ?_
              refine RO.opv (v' := .d (encR _)) (opv_load_ref rfl rfl rfl) rfl ?_
              refine RO.opv (v' := .d (enc _)) (opv_load_term rfl rfl rfl) rfl ?_
              refine RO.opv (v' := .d (.int _ _)) (opv_move rfl) rfl ?_
              refine RO.opv (v' := .d (enc _)) (opv_callF (rseen_fn M l hM ts[x.1] lv (by omega)) rfl rfl rfl trivial) rfl ?_
              refine RO.opv (v' := .d (.list (encs _))) (opv_bs_term1 rfl ) rfl ?_
              refine RO.opn (v' := .own 1 _) (O' := [_, _, _]) (opv_append_terms rfl rfl rfl (by have := low_len l lv (ts.take x.1); simp at this; simp; omega)) rfl rfl ?_
              refine RO.opv (v' := .own 1 _) (opv_assign rfl) rfl ?_
              refine RO.nil ?_
              refine blockQ_normal ?_
              refine thenQ_normal ?_
              refine Runs.has [(1, .d (.list (encs _))), (2, .d (.int _ _)), (3, .ref 0 0), (6, .nil0), (7, .own 1 _), (8, .d (.int _ _))] ⟨rfl, rfl, rfl, rfl, rfl, rfl, trivial⟩ ?_
              refine Runs.region ?_
              refine RO.opv (v' := .d (.int _ _)) (opv_move rfl) rfl ?_
              refine RO.opv (v' := .d (.int _ _)) (opv_bin rfl rfl rfl) rfl ?_
              refine RO.opv (v' := .d (.int _ _)) (opv_assign rfl) rfl ?_
              refine RO.nil ?_
              refine thenQ_normal ?_
              refine ⟨(x.1 + 1, x.2 + 1), 2, (by rw [hK]; exact Nat.le_of_ble_eq_true rfl), ⟨rfl, rfl, rfl, rfl, trivial⟩, ⟨?_, ?_, trivial⟩, ?_, ?_, ?_⟩
              · rfl
              · refine int_eq ?_; rw [wrap64 (by omega) (by omega)]; omega
              · first | (rw [low_in hk (by first | exact hid_no hl | (rw [hid_lab hl hk0]; simp only [hid1, *, Bool.true_and, Bool.false_and, decide_true, decide_false, Bool.not_true, Bool.not_false]; done))]; rfl) | (rw [low_out hk (by rw [hid_lab hl hk0]; simp only [hid1, *, Bool.true_and, decide_true, Bool.not_false]; done)]; rfl)
              · show x.1 + 1 ≤ _; omega
              · show ts.length - (x.1 + 1) < _; omega
          · try simp only [decide_eq_true_eq, decide_eq_false_iff_not, beq_iff_eq, beq_eq_false_iff_ne, bne_iff_ne, bne_eq_false_iff_eq, Int.not_lt, Int.not_le, ne_eq, Bool.not_eq_true', Bool.not_eq_false', gt_iff_lt, ge_iff_le] at h5
            have e3 : decide (ts[x.1].kids[0].num < ((l.n : Nat) : Int)) = false := decide_eq_false (by omega)
            refine RD.off rfl ?_
            refine RD.off rfl ?_
            refine RD.off rfl ?_
            refine RD.off rfl ?_
            refine RD.off rfl ?_
            refine RD.off rfl ?_
            refine RD.off rfl ?_
            refine RD.off rfl ?_
            refine RD.off rfl ?_
            refine RD.opv (v' := .d (.bool false)) (opv_pick rfl rfl) rfl ?_
            refine RD.nil ?_
            refine thenQ_normal ?_
            refine Runs.condF rfl ?_
            refine Runs.skip ?_
            refine thenQ_normal ?_
            refine Runs.has [(1, .d (.list (encs _))), (2, .d (.int _ _)), (3, .ref 0 0), (6, .nil0), (7, .own 1 _), (8, .d (.int _ _)), (9, .ref 2 0)] ⟨rfl, rfl, rfl, rfl, rfl, rfl, rfl, trivial⟩ ?_
            refine Runs.region ?_
            refine RO.opv (v' := .own 1 _) (opv_move rfl) rfl ?_
            refine RO.opv (v' := .d (encR _)) (opv_load_ref rfl rfl rfl) rfl ?_
            refine RO.opv (v' := .d (enc _)) (opv_load_term rfl rfl rfl) rfl ?_
            refine RO.opv (v' := .d (.int _ _)) (opv_move rfl) rfl ?_
            refine RO.opv (v' := .d (enc _)) (opv_callF (rseen_fn M l hM ts[x.1] lv (by omega)) rfl rfl rfl trivial) rfl ?_
            refine RO.opv (v' := .d (.list (encs _))) (opv_bs_term1 rfl ) rfl ?_
            refine RO.opn (v' := .own 1 _) (O' := [_, _, _]) (opv_append_terms rfl rfl rfl (by have := low_len l lv (ts.take x.1); simp at this; simp; omega)) rfl rfl ?_
            refine RO.opv (v' := .own 1 _) (opv_assign rfl) rfl ?_
            refine RO.nil ?_
            refine blockQ_normal ?_
            refine thenQ_normal ?_
            refine Runs.has [(1, .d (.list (encs _))), (2, .d (.int _ _)), (3, .ref 0 0), (6, .nil0), (7, .own 1 _), (8, .d (.int _ _))] ⟨rfl, rfl, rfl, rfl, rfl, rfl, trivial⟩ ?_
            refine Runs.region ?_
            refine RO.opv (v' := .d (.int _ _)) (opv_move rfl) rfl ?_
            refine RO.opv (v' := .d (.int _ _)) (opv_bin rfl rfl rfl) rfl ?_
            refine RO.opv (v' := .d (.int _ _)) (opv_assign rfl) rfl ?_
            refine RO.nil ?_
            refine thenQ_normal ?_
            refine ⟨(x.1 + 1, x.2 + 1), 2, (by rw [hK]; exact Nat.le_of_ble_eq_true rfl), ⟨rfl, rfl, rfl, rfl, trivial⟩, ⟨?_, ?_, trivial⟩, ?_, ?_, ?_⟩
            · rfl
            · refine int_eq ?_; rw [wrap64 (by omega) (by omega)]; omega
            · first | (rw [low_in hk (by first | exact hid_no hl | (rw [hid_lab hl hk0]; simp only [hid1, *, Bool.true_and, Bool.false_and, decide_true, decide_false, Bool.not_true, Bool.not_false]; done))]; rfl) | (rw [low_out hk (by rw [hid_lab hl hk0]; simp only [hid1, *, Bool.true_and, decide_true, Bool.not_false]; done)]; rfl)
            · show x.1 + 1 ≤ _; omega
            · show ts.length - (x.1 + 1) < _; omega
        · try simp only [decide_eq_true_eq, decide_eq_false_iff_not, beq_iff_eq, beq_eq_false_iff_ne, bne_iff_ne, bne_eq_false_iff_eq, Int.not_lt, Int.not_le, ne_eq, Bool.not_eq_true', Bool.not_eq_false', gt_iff_lt, ge_iff_le] at h4
          have e2 := decide_eq_false (by omega : ¬ (0 : Int) ≤ ts[x.1].kids[0].num)
          refine RD.off rfl ?_
          refine RD.off rfl ?_
          refine RD.off rfl ?_
          refine RD.off rfl ?_
          refine RD.off rfl ?_
          refine RD.off rfl ?_
          refine RD.off rfl ?_
          refine RD.off rfl ?_
          refine RD.off rfl ?_
          refine RD.opv (v' := .d (.bool false)) (opv_pick rfl rfl) rfl ?_
          refine RD.opv (v' := .d (.bool false)) (opv_move rfl) rfl ?_
          refine RD.off rfl ?_
          refine RD.off rfl ?_
          refine RD.off rfl ?_
          refine RD.off rfl ?_
          refine RD.off rfl ?_
          refine RD.off rfl ?_
          refine RD.off rfl ?_
          refine RD.off rfl ?_
          refine RD.off rfl ?_
          refine RD.opv (v' := .d (.bool false)) (opv_pick rfl rfl) rfl ?_
          refine RD.nil ?_
          refine thenQ_normal ?_
          refine Runs.condF rfl ?_
          refine Runs.skip ?_
          refine thenQ_normal ?_
          refine Runs.has [(1, .d (.list (encs _))), (2, .d (.int _ _)), (3, .ref 0 0), (6, .nil0), (7, .own 1 _), (8, .d (.int _ _)), (9, .ref 2 0)] ⟨rfl, rfl, rfl, rfl, rfl, rfl, rfl, trivial⟩ ?_
          refine Runs.region ?_
          refine RO.opv (v' := .own 1 _) (opv_move rfl) rfl ?_
          refine RO.opv (v' := .d (encR _)) (opv_load_ref rfl rfl rfl) rfl ?_
          refine RO.opv (v' := .d (enc _)) (opv_load_term rfl rfl rfl) rfl ?_
          refine RO.opv (v' := .d (.int _ _)) (opv_move rfl) rfl ?_
          refine RO.opv (v' := .d (enc _)) (opv_callF (rseen_fn M l hM ts[x.1] lv (by omega)) rfl rfl rfl trivial) rfl ?_
          refine RO.opv (v' := .d (.list (encs _))) (opv_bs_term1 rfl ) rfl ?_
          refine RO.opn (v' := .own 1 _) (O' := [_, _, _]) (opv_append_terms rfl rfl rfl (by have := low_len l lv (ts.take x.1); simp at this; simp; omega)) rfl rfl ?_
          refine RO.opv (v' := .own 1 _) (opv_assign rfl) rfl ?_
          refine RO.nil ?_
          refine blockQ_normal ?_
          refine thenQ_normal ?_
          refine Runs.has [(1, .d (.list (encs _))), (2, .d (.int _ _)), (3, .ref 0 0), (6, .nil0), (7, .own 1 _), (8, .d (.int _ _))] ⟨rfl, rfl, rfl, rfl, rfl, rfl, trivial⟩ ?_
          refine Runs.region ?_
          refine RO.opv (v' := .d (.int _ _)) (opv_move rfl) rfl ?_
          refine RO.opv (v' := .d (.int _ _)) (opv_bin rfl rfl rfl) rfl ?_
          refine RO.opv (v' := .d (.int _ _)) (opv_assign rfl) rfl ?_
          refine RO.nil ?_
          refine thenQ_normal ?_
          refine ⟨(x.1 + 1, x.2 + 1), 2, (by rw [hK]; exact Nat.le_of_ble_eq_true rfl), ⟨rfl, rfl, rfl, rfl, trivial⟩, ⟨?_, ?_, trivial⟩, ?_, ?_, ?_⟩
          · rfl
          · refine int_eq ?_; rw [wrap64 (by omega) (by omega)]; omega
          · first | (rw [low_in hk (by first | exact hid_no hl | (rw [hid_lab hl hk0]; simp only [hid1, *, Bool.true_and, Bool.false_and, decide_true, decide_false, Bool.not_true, Bool.not_false]; done))]; rfl) | (rw [low_out hk (by rw [hid_lab hl hk0]; simp only [hid1, *, Bool.true_and, decide_true, Bool.not_false]; done)]; rfl)
          · show x.1 + 1 ≤ _; omega
          · show ts.length - (x.1 + 1) < _; omega
      · try simp only [decide_eq_true_eq, decide_eq_false_iff_not, beq_iff_eq, beq_eq_false_iff_ne, bne_iff_ne, bne_eq_false_iff_eq, Int.not_lt, Int.not_le, ne_eq, Bool.not_eq_true', Bool.not_eq_false', gt_iff_lt, ge_iff_le] at h3
        have e1 := decide_eq_false h3
        refine RD.off rfl ?_
        refine RD.off rfl ?_
        refine RD.off rfl ?_
        refine RD.off rfl ?_
        refine RD.off rfl ?_
        refine RD.off rfl ?_
        refine RD.opv (v' := .d (.bool false)) (opv_pick rfl rfl) rfl ?_
        refine RD.opv (v' := .d (.bool false)) (opv_move rfl) rfl ?_
        refine RD.off rfl ?_
        refine RD.off rfl ?_
        refine RD.off rfl ?_
        refine RD.off rfl ?_
        refine RD.off rfl ?_
        refine RD.off rfl ?_
        refine RD.off rfl ?_
        refine RD.off rfl ?_
        refine RD.off rfl ?_
        refine RD.opv (v' := .d (.bool false)) (opv_pick rfl rfl) rfl ?_
        refine RD.opv (v' := .d (.bool false)) (opv_move rfl) rfl ?_
        refine RD.off rfl ?_
        refine RD.off rfl ?_
        refine RD.off rfl ?_
        refine RD.off rfl ?_
        refine RD.off rfl ?_
        refine RD.off rfl ?_
        refine RD.off rfl ?_
        refine RD.off rfl ?_
        refine RD.off rfl ?_
        refine RD.opv (v' := .d (.bool false)) (opv_pick rfl rfl) rfl ?_
        refine RD.nil ?_
        refine thenQ_normal ?_
        refine Runs.condF rfl ?_
        refine Runs.skip ?_
        refine thenQ_normal ?_
        refine Runs.has [(1, .d (.list (encs _))), (2, .d (.int _ _)), (3, .ref 0 0), (6, .nil0), (7, .own 1 _), (8, .d (.int _ _)), (9, .ref 2 0)] ⟨rfl, rfl, rfl, rfl, rfl, rfl, rfl, trivial⟩ ?_
        refine Runs.region ?_
        refine RO.opv (v' := .own 1 _) (opv_move rfl) rfl ?_
        refine RO.opv (v' := .d (encR _)) (opv_load_ref rfl rfl rfl) rfl ?_
        refine RO.opv (v' := .d (enc _)) (opv_load_term rfl rfl rfl) rfl ?_
        refine RO.opv (v' := .d (.int _ _)) (opv_move rfl) rfl ?_
        refine RO.opv (v' := .d (enc _)) (opv_callF (rseen_fn M l hM ts[x.1] lv (by omega)) rfl rfl rfl trivial) rfl ?_
        refine RO.opv (v' := .d (.list (encs _))) (opv_bs_term1 rfl ) rfl ?_
        refine RO.opn (v' := .own 1 _) (O' := [_, _, _]) (opv_append_terms rfl rfl rfl (by have := low_len l lv (ts.take x.1); simp at this; simp; omega)) rfl rfl ?_
        refine RO.opv (v' := .own 1 _) (opv_assign rfl) rfl ?_
        refine RO.nil ?_
        refine blockQ_normal ?_
        refine thenQ_normal ?_
        refine Runs.has [(1, .d (.list (encs _))), (2, .d (.int _ _)), (3, .ref 0 0), (6, .nil0), (7, .own 1 _), (8, .d (.int _ _))] ⟨rfl, rfl, rfl, rfl, rfl, rfl, trivial⟩ ?_
        refine Runs.region ?_
        refine RO.opv (v' := .d (.int _ _)) (opv_move rfl) rfl ?_
        refine RO.opv (v' := .d (.int _ _)) (opv_bin rfl rfl rfl) rfl ?_
        refine RO.opv (v' := .d (.int _ _)) (opv_assign rfl) rfl ?_
        refine RO.nil ?_
        refine thenQ_normal ?_
        refine ⟨(x.1 + 1, x.2 + 1), 2, (by rw [hK]; exact Nat.le_of_ble_eq_true rfl), ⟨rfl, rfl, rfl, rfl, trivial⟩, ⟨?_, ?_, trivial⟩, ?_, ?_, ?_⟩
        · rfl
        · refine int_eq ?_; rw [wrap64 (by omega) (by omega)]; omega
        · first | (rw [low_in hk (by first | exact hid_no hl | (rw [hid_lab hl hk0]; simp only [hid1, *, Bool.true_and, Bool.false_and, decide_true, decide_false, Bool.not_true, Bool.not_false]; done))]; rfl) | (rw [low_out hk (by rw [hid_lab hl hk0]; simp only [hid1, *, Bool.true_and, decide_true, Bool.not_false]; done)]; rfl)
        · show x.1 + 1 ≤ _; omega
        · show ts.length - (x.1 + 1) < _; omega
    · try simp only [decide_eq_true_eq, decide_eq_false_iff_not, beq_iff_eq, beq_eq_false_iff_ne, bne_iff_ne, bne_eq_false_iff_eq, Int.not_lt, Int.not_le, ne_eq, Bool.not_eq_true', Bool.not_eq_false', gt_iff_lt, ge_iff_le] at h2
      have hl := h2
      refine RD.off rfl ?_
      refine RD.off rfl ?_
      refine RD.off rfl ?_
      refine RD.off rfl ?_
      refine RD.off rfl ?_
      refine RD.off rfl ?_
      refine RD.opv (v' := .d (.bool false)) (opv_pick rfl rfl) rfl ?_
      refine RD.opv (v' := .d (.bool false)) (opv_move rfl) rfl ?_
      refine RD.off rfl ?_
      refine RD.off rfl ?_
      refine RD.off rfl ?_
      refine RD.off rfl ?_
      refine RD.off rfl ?_
      refine RD.off rfl ?_
      refine RD.opv (v' := .d (.bool false)) (opv_pick rfl rfl) rfl ?_
      refine RD.opv (v' := .d (.bool false)) (opv_move rfl) rfl ?_
      refine RD.off rfl ?_
      refine RD.off rfl ?_
      refine RD.off rfl ?_
      refine RD.off rfl ?_
      refine RD.off rfl ?_
      refine RD.off rfl ?_
      refine RD.off rfl ?_
      refine RD.off rfl ?_
      refine RD.off rfl ?_
      refine RD.opv (v' := .d (.bool false)) (opv_pick rfl rfl) rfl ?_
      refine RD.opv (v' := .d (.bool false)) (opv_move rfl) rfl ?_
      refine RD.off rfl ?_
      refine RD.off rfl ?_
      refine RD.off rfl ?_
      refine RD.off rfl ?_
      refine RD.off rfl ?_
      refine RD.off rfl ?_
      refine RD.off rfl ?_
      refine RD.off rfl ?_
      refine RD.off rfl ?_
      refine RD.opv (v' := .d (.bool false)) (opv_pick rfl rfl) rfl ?_
      refine RD.nil ?_
      refine thenQ_normal ?_
      refine Runs.condF rfl ?_
      refine Runs.skip ?_
      refine thenQ_normal ?_
      refine Runs.has [(1, .d (.list (encs _))), (2, .d (.int _ _)), (3, .ref 0 0), (6, .nil0), (7, .own 1 _), (8, .d (.int _ _)), (9, .ref 2 0)] ⟨rfl, rfl, rfl, rfl, rfl, rfl, rfl, trivial⟩ ?_
      refine Runs.region ?_
      refine RO.opv (v' := .own 1 _) (opv_move rfl) rfl ?_
      refine RO.opv (v' := .d (encR _)) (opv_load_ref rfl rfl rfl) rfl ?_
      refine RO.opv (v' := .d (enc _)) (opv_load_term rfl rfl rfl) rfl ?_
      refine RO.opv (v' := .d (.int _ _)) (opv_move rfl) rfl ?_
      refine RO.opv (v' := .d (enc _)) (opv_callF (rseen_fn M l hM ts[x.1] lv (by omega)) rfl rfl rfl trivial) rfl ?_
      refine RO.opv (v' := .d (.list (encs _))) (opv_bs_term1 rfl ) rfl ?_
      refine RO.opn (v' := .own 1 _) (O' := [_, _, _]) (opv_append_terms rfl rfl rfl (by have := low_len l lv (ts.take x.1); simp at this; simp; omega)) rfl rfl ?_
      refine RO.opv (v' := .own 1 _) (opv_assign rfl) rfl ?_
      refine RO.nil ?_
      refine blockQ_normal ?_
      refine thenQ_normal ?_
      refine Runs.has [(1, .d (.list (encs _))), (2, .d (.int _ _)), (3, .ref 0 0), (6, .nil0), (7, .own 1 _), (8, .d (.int _ _))] ⟨rfl, rfl, rfl, rfl, rfl, rfl, trivial⟩ ?_
      refine Runs.region ?_
      refine RO.opv (v' := .d (.int _ _)) (opv_move rfl) rfl ?_
      refine RO.opv (v' := .d (.int _ _)) (opv_bin rfl rfl rfl) rfl ?_
      refine RO.opv (v' := .d (.int _ _)) (opv_assign rfl) rfl ?_
      refine RO.nil ?_
      refine thenQ_normal ?_
      refine ⟨(x.1 + 1, x.2 + 1), 2, (by rw [hK]; exact Nat.le_of_ble_eq_true rfl), ⟨rfl, rfl, rfl, rfl, trivial⟩, ⟨?_, ?_, trivial⟩, ?_, ?_, ?_⟩
      · rfl
      · refine int_eq ?_; rw [wrap64 (by omega) (by omega)]; omega
      · first | (rw [low_in hk (by first | exact hid_no hl | (rw [hid_lab hl hk0]; simp only [hid1, *, Bool.true_and, Bool.false_and, decide_true, decide_false, Bool.not_true, Bool.not_false]; done))]; rfl) | (rw [low_out hk (by rw [hid_lab hl hk0]; simp only [hid1, *, Bool.true_and, decide_true, Bool.not_false]; done)]; rfl)
      · show x.1 + 1 ≤ _; omega
      · show ts.length - (x.1 + 1) < _; omega
  · try simp only [decide_eq_true_eq, decide_eq_false_iff_not, beq_iff_eq, beq_eq_false_iff_ne, bne_iff_ne, bne_eq_false_iff_eq, Int.not_lt, Int.not_le, ne_eq, Bool.not_eq_true', Bool.not_eq_false', gt_iff_lt, ge_iff_le] at h1
    have hk : x.1 = ts.length := by omega
    refine RO.nil ?_
    refine Runs.condF rfl ?_
    refine Runs.exit ?_
    refine thenQ_exit ?_
    refine thenQ_exit ?_
    refine blockQ_here ?_
    refine thenQ_normal ?_
    refine Runs.has [(6, .nil0), (7, .own 1 _)] ⟨rfl, rfl, trivial⟩ ?_
    refine Runs.shut 7 rfl rfl ?_
    refine Runs.rseq ?_
    refine RO.opv (v' := .d (.list (encs _))) (opv_move rfl) rfl ?_
    refine RO.opv (v' := .d (.list (encs _))) (opv_assign rfl) rfl ?_
    refine RO.nil ?_
    refine Runs.ret ?_
    refine EndQ.tmp (.inr rfl) rfl rfl 0 (by exact Nat.le_refl _) (by exact Nat.zero_le _) trivial ⟨?_, rfl⟩
    refine terms_eq ?_; rw [hk, List.take_length]
end Go.Proofs.Ytljmkgjemmoegaa.AM
