import Derived.Test.YtohncglpjiplaaaAg
import Derived.Test.YtohncglpjiplaaaY3
import Derived.Test.YtohncglpjiplaaaF2
namespace Go.Proofs.Ytohncglpjiplaaa.AM
open Go
set_option linter.unusedVariables false
set_option linter.unusedSimpArgs false
set_option maxRecDepth 100000
theorem mleq_fn (M : List (List Bool)) (l : Lt) (hM : Mt M l) (a b : Int) : Fn Try.prog 55 [.d (encR M), .d (.int .i64 a), .d (.int .i64 b)] [] (.d (.bool (l.leq a b))) [] := by
  have h := tleq_fn M l.n hM.sq hM.n16 a b
  rwa [hM.leq] at h
theorem mjoin_fn (M : List (List Bool)) (l : Lt) (hM : Mt M l) (a b : Int) : Fn Try.prog 31 [.d (encR M), .d (.int .i64 a), .d (.int .i64 b)] [] (.d (.int .i64 (l.join a b))) [] := by
  have h := tjoin_fn M l.n hM.sq hM.n16 a b
  rwa [hM.join] at h
theorem mtop_fn (M : List (List Bool)) (l : Lt) (hM : Mt M l) : Fn Try.prog 71 [.d (encR M)] [] (.d (.int .i64 l.top)) [] := by
  have h := ttop_fn M l.n hM.sq hM.n16
  rwa [hM.top] at h
theorem mbot_fn (M : List (List Bool)) (l : Lt) (hM : Mt M l) : Fn Try.prog 46 [.d (encR M)] [] (.d (.int .i64 l.bottom)) [] := by
  have h := tbot_fn M l.n hM.sq hM.n16
  rwa [hM.bot] at h
theorem rlevel_fn (M : List (List Bool)) (l : Lt) (hM : Mt M l) (n : Int) : Fn Try.prog 43 [.d (encR M), .d (.int .i64 n)] [] (.d (.int .i64 (l.lev n))) [] := by
  refine Does.run Try.func43 rfl Try.ntmps43 rfl fun K hK => ?_
  refine Runs.rseq ?_
  refine RO.opn (v' := .ref 0 0) (O' := [_]) (opv_box rfl rfl) rfl rfl ?_
  refine RO.opv (v' := .d (.int _ _)) (opv_assign rfl) rfl ?_
  refine RO.nil ?_
  refine Runs.has [(1, .d (.int _ _)), (2, .ref 0 0), (4, .d (.int _ _))] ⟨rfl, rfl, rfl, trivial⟩ ?_
  refine Runs.seq ?_
  refine Runs.rseq ?_
  refine RO.opv (v' := .d (.int _ _)) (opv_move rfl) rfl ?_
  refine RO.opv (v' := .d (.bool _)) (opv_bin rfl rfl rfl) rfl ?_
  refine RO.opc (opv_move rfl) (fun h1 => ?_) (fun h1 => ?_)
  · try simp only [Z.a, Z.b, Z.c, Z.d, Z.e, Z.f, Z.g, Z.h, Z.i, Z.j, Z.k, Z.l, Z.m] at h1
    have hx := h1
    refine RO.opgv (v' := .d (.int _ _)) rfl (opv_move rfl) rfl ?_
    refine RO.opgv (v' := .ref 0 0) rfl (opv_field_ref rfl rfl) rfl ?_
    refine RO.opgv (v' := .d (.list (rowsD _))) rfl (opv_load_ref rfl rfl rfl) rfl ?_
    refine RO.opgv (v' := .d (.int _ _)) rfl (opv_len_rows rfl) rfl ?_
    refine RO.opgv (v' := .d (.bool _)) rfl (opv_bin rfl rfl rfl) rfl ?_
    refine RO.opc (opv_pick rfl rfl) (fun h2 => ?_) (fun h2 => ?_)
    · try simp only [Z.a, Z.b, Z.c, Z.d, Z.e, Z.f, Z.g, Z.h, Z.i, Z.j, Z.k, Z.l, Z.m] at h2
      have hy := h2
      refine RO.nil ?_
      refine Runs.condT rfl ?_
      refine Runs.has [(1, .d (.int _ _)), (2, .ref 0 0), (4, .d (.int _ _))] ⟨rfl, rfl, rfl, trivial⟩ ?_
      refine Runs.rseq ?_
      refine RO.opv (v' := .d (.int _ _)) (opv_move rfl) rfl ?_
      refine RO.opv (v' := .d (.int _ _)) (opv_assign rfl) rfl ?_
      refine RO.nil ?_
      refine Runs.ret ?_
      refine thenQ_ret ?_
      refine EndQ.tmp (.inr rfl) rfl rfl 0 (by exact Nat.le_refl _) (by exact Nat.zero_le _) trivial ⟨?_, rfl⟩
      refine int_eq ?_; unfold Lt.lev; rw [if_neg (by have := hM.sq.1; omega)]
    · try simp only [Z.a, Z.b, Z.c, Z.d, Z.e, Z.f, Z.g, Z.h, Z.i, Z.j, Z.k, Z.l, Z.m] at h2
      have hy := h2
      refine RO.nil ?_
      refine Runs.condF rfl ?_
      refine Runs.skip ?_
      refine thenQ_normal ?_
      refine Runs.has [(2, .ref 0 0), (4, .d (.int _ _))] ⟨rfl, rfl, trivial⟩ ?_
      refine Runs.rseq ?_
      refine RO.opv (v' := .d (encR _)) (opv_load_ref rfl rfl rfl) rfl ?_
      refine RO.opv (v' := .d (.int _ _)) (opv_callF (mtop_fn M l hM) rfl rfl rfl trivial) rfl ?_
      refine RO.opv (v' := .d (.int _ _)) (opv_assign rfl) rfl ?_
      refine RO.nil ?_
      refine Runs.ret ?_
      refine EndQ.tmp (.inr rfl) rfl rfl 0 (by exact Nat.le_refl _) (by exact Nat.zero_le _) trivial ⟨?_, rfl⟩
      refine int_eq ?_; unfold Lt.lev; rw [if_pos (by have := hM.sq.1; omega)]
  · try simp only [Z.a, Z.b, Z.c, Z.d, Z.e, Z.f, Z.g, Z.h, Z.i, Z.j, Z.k, Z.l, Z.m] at h1
    have hx := h1
    refine RO.off rfl ?_
    refine RO.off rfl ?_
    refine RO.off rfl ?_
    refine RO.off rfl ?_
    refine RO.off rfl ?_
    refine RO.opv (v' := .d (.bool false)) (opv_pick rfl rfl) rfl ?_
    refine RO.nil ?_
    refine Runs.condF rfl ?_
    refine Runs.skip ?_
    refine thenQ_normal ?_
    refine Runs.has [(2, .ref 0 0), (4, .d (.int _ _))] ⟨rfl, rfl, trivial⟩ ?_
    refine Runs.rseq ?_
    refine RO.opv (v' := .d (encR _)) (opv_load_ref rfl rfl rfl) rfl ?_
    refine RO.opv (v' := .d (.int _ _)) (opv_callF (mtop_fn M l hM) rfl rfl rfl trivial) rfl ?_
    refine RO.opv (v' := .d (.int _ _)) (opv_assign rfl) rfl ?_
    refine RO.nil ?_
    refine Runs.ret ?_
    refine EndQ.tmp (.inr rfl) rfl rfl 0 (by exact Nat.le_refl _) (by exact Nat.zero_le _) trivial ⟨?_, rfl⟩
    refine int_eq ?_; unfold Lt.lev; rw [if_pos (by have := hM.sq.1; omega)]
theorem rlev4_fn (M : List (List Bool)) (l : Lt) (hM : Mt M l) (t : Term) : Fn Try.prog 72 [.d (encR M), .d (enc t)] [] (.d (.int .i64 (l.lev t.num))) [] := by
  refine Does.run Try.func72 rfl Try.ntmps72 rfl fun K hK => ?_
  refine Runs.rseq ?_
  refine RO.opn (v' := .ref 0 0) (O' := [_]) (opv_box rfl rfl) rfl rfl ?_
  refine RO.opn (v' := .ref 1 0) (O' := [_, _]) (opv_box_term rfl) rfl rfl ?_
  refine RO.opv (v' := .d (.int _ _)) (opv_assign rfl) rfl ?_
  refine RO.nil ?_
  refine Runs.has [(2, .ref 0 0), (3, .ref 1 0), (4, .d (.int _ _))] ⟨rfl, rfl, rfl, trivial⟩ ?_
  refine Runs.seq ?_
  refine Runs.rseq ?_
  refine RO.opv (v' := .ref 1 1) (opv_field_ref rfl rfl) rfl ?_
  refine RO.opv (v' := .d (.int _ _)) (opv_load_ref rfl rfl rfl) rfl ?_
  refine RO.opv (v' := .d (.bool _)) (opv_bin rfl rfl rfl) rfl ?_
  refine RO.opc (opv_move rfl) (fun h1 => ?_) (fun h1 => ?_)
  · try simp only [Z.a, Z.b, Z.c, Z.d, Z.e, Z.f, Z.g, Z.h, Z.i, Z.j, Z.k, Z.l, Z.m] at h1
    have hx := h1
    refine RO.opgv (v' := .ref 1 1) rfl (opv_field_ref rfl rfl) rfl ?_
    refine RO.opgv (v' := .d (.int _ _)) rfl (opv_load_ref rfl rfl rfl) rfl ?_
    refine RO.opgv (v' := .ref 0 0) rfl (opv_field_ref rfl rfl) rfl ?_
    refine RO.opgv (v' := .d (.list (rowsD _))) rfl (opv_load_ref rfl rfl rfl) rfl ?_
    refine RO.opgv (v' := .d (.int _ _)) rfl (opv_len_rows rfl) rfl ?_
    refine RO.opgv (v' := .d (.bool _)) rfl (opv_bin rfl rfl rfl) rfl ?_
    refine RO.opc (opv_pick rfl rfl) (fun h2 => ?_) (fun h2 => ?_)
    · try simp only [Z.a, Z.b, Z.c, Z.d, Z.e, Z.f, Z.g, Z.h, Z.i, Z.j, Z.k, Z.l, Z.m] at h2
      have hy := h2
      refine RO.nil ?_
      refine Runs.condT rfl ?_
      refine Runs.has [(2, .ref 0 0), (3, .ref 1 0), (4, .d (.int _ _))] ⟨rfl, rfl, rfl, trivial⟩ ?_
      refine Runs.rseq ?_
      refine RO.opv (v' := .ref 1 1) (opv_field_ref rfl rfl) rfl ?_
      refine RO.opv (v' := .d (.int _ _)) (opv_load_ref rfl rfl rfl) rfl ?_
      refine RO.opv (v' := .d (.int _ _)) (opv_assign rfl) rfl ?_
      refine RO.nil ?_
      refine Runs.ret ?_
      refine thenQ_ret ?_
      refine EndQ.tmp (.inr rfl) rfl rfl 0 (by exact Nat.le_refl _) (by exact Nat.zero_le _) trivial ⟨?_, rfl⟩
      refine int_eq ?_; unfold Lt.lev; rw [if_neg (by have := hM.sq.1; omega)]
    · try simp only [Z.a, Z.b, Z.c, Z.d, Z.e, Z.f, Z.g, Z.h, Z.i, Z.j, Z.k, Z.l, Z.m] at h2
      have hy := h2
      refine RO.nil ?_
      refine Runs.condF rfl ?_
      refine Runs.skip ?_
      refine thenQ_normal ?_
      refine Runs.has [(2, .ref 0 0), (4, .d (.int _ _))] ⟨rfl, rfl, trivial⟩ ?_
      refine Runs.rseq ?_
      refine RO.opv (v' := .d (encR _)) (opv_load_ref rfl rfl rfl) rfl ?_
      refine RO.opv (v' := .d (.int _ _)) (opv_callF (mtop_fn M l hM) rfl rfl rfl trivial) rfl ?_
      refine RO.opv (v' := .d (.int _ _)) (opv_assign rfl) rfl ?_
      refine RO.nil ?_
      refine Runs.ret ?_
      refine EndQ.tmp (.inr rfl) rfl rfl 0 (by exact Nat.le_refl _) (by exact Nat.zero_le _) trivial ⟨?_, rfl⟩
      refine int_eq ?_; unfold Lt.lev; rw [if_pos (by have := hM.sq.1; omega)]
  · try simp only [Z.a, Z.b, Z.c, Z.d, Z.e, Z.f, Z.g, Z.h, Z.i, Z.j, Z.k, Z.l, Z.m] at h1
    have hx := h1
    refine RO.off rfl ?_
    refine RO.off rfl ?_
    refine RO.off rfl ?_
    refine RO.off rfl ?_
    refine RO.off rfl ?_
    refine RO.off rfl ?_
    refine RO.opv (v' := .d (.bool false)) (opv_pick rfl rfl) rfl ?_
    refine RO.nil ?_
    refine Runs.condF rfl ?_
    refine Runs.skip ?_
    refine thenQ_normal ?_
    refine Runs.has [(2, .ref 0 0), (4, .d (.int _ _))] ⟨rfl, rfl, trivial⟩ ?_
    refine Runs.rseq ?_
    refine RO.opv (v' := .d (encR _)) (opv_load_ref rfl rfl rfl) rfl ?_
    refine RO.opv (v' := .d (.int _ _)) (opv_callF (mtop_fn M l hM) rfl rfl rfl trivial) rfl ?_
    refine RO.opv (v' := .d (.int _ _)) (opv_assign rfl) rfl ?_
    refine RO.nil ?_
    refine Runs.ret ?_
    refine EndQ.tmp (.inr rfl) rfl rfl 0 (by exact Nat.le_refl _) (by exact Nat.zero_le _) trivial ⟨?_, rfl⟩
    refine int_eq ?_; unfold Lt.lev; rw [if_pos (by have := hM.sq.1; omega)]
theorem rerase_aux  : ∀ (m : Nat) (t : Term), t.size ≤ m → t.bulk ≤ 2 ^ 30 → Fn Try.prog 47 [.d (enc t)] [] (.d (enc t.erase)) [] := by
  intro m
  induction m with
  | zero => intro t h; have := t.size_kids; omega
  | succ m ih =>
  intro t hm hb
  have hS := t.size_kids
  have hU := t.bulk_kids
  have hL := bulks_len t.kids
  refine Does.run Try.func47 rfl Try.ntmps47 rfl fun K hK => ?_
  refine Runs.rseq ?_
  refine RO.opn (v' := .ref 0 0) (O' := [_]) (opv_box_term rfl) rfl rfl ?_
  refine RO.opn (v' := .ref 1 0) (O' := [_, _]) (opv_alloc) rfl rfl ?_
  refine RO.nil ?_
  refine Runs.has [(1, .ref 0 0), (2, .ref 1 0)] ⟨rfl, rfl, trivial⟩ ?_
  refine Runs.seq ?_
  refine Runs.rseq ?_
  refine RO.opv (v' := .ref 0 0) (opv_field_ref rfl rfl) rfl ?_
  refine RO.opv (v' := .d (.int _ _)) (opv_load_ref rfl rfl rfl) rfl ?_
  refine RO.opv (v' := .d (.bool _)) (opv_bin rfl rfl rfl) rfl ?_
  refine RO.opc (opv_move rfl) (fun h1 => ?_) (fun h1 => ?_)
  · try simp only [Z.a, Z.b, Z.c, Z.d, Z.e, Z.f, Z.g, Z.h, Z.i, Z.j, Z.k, Z.l, Z.m] at h1
    have h4 : t.kind = 4 := h1
    refine RO.opgv (v' := .ref 0 3) rfl (opv_field_ref rfl rfl) rfl ?_
    refine RO.opgv (v' := .d (.list (encs _))) rfl (opv_load_ref rfl rfl rfl) rfl ?_
    refine RO.opgv (v' := .d (.int _ _)) rfl (opv_len_terms rfl) rfl ?_
    refine RO.opgv (v' := .d (.bool _)) rfl (opv_bin rfl rfl rfl) rfl ?_
    refine RO.opc (opv_pick rfl rfl) (fun h2 => ?_) (fun h2 => ?_)
    · try simp only [Z.a, Z.b, Z.c, Z.d, Z.e, Z.f, Z.g, Z.h, Z.i, Z.j, Z.k, Z.l, Z.m] at h2
      have hq : t.kids.length = 1 := by omega
      have hk0 : 0 < t.kids.length := by omega
      refine RO.nil ?_
      refine Runs.condT rfl ?_
      refine Runs.has [(1, .ref 0 0), (2, .ref 1 0)] ⟨rfl, rfl, trivial⟩ ?_
      refine Runs.rseq ?_
      refine RO.opv (v' := .ref 0 3) (opv_field_ref rfl rfl) rfl ?_
      refine RO.opv (v' := .d (.list (encs _))) (opv_load_ref rfl rfl rfl) rfl ?_
      refine RO.opv (v' := .d (.ptr _)) (opv_index_terms (i := 0) rfl rfl hk0) rfl ?_
      refine RO.opv (v' := .d (enc _)) (opv_load_pterm rfl) rfl ?_
      refine RO.opv (v' := .d (enc _)) (opv_callF (ih t.kids[0] (by have := sizes_mem (List.getElem_mem (l := t.kids) (n := 0) hk0); omega) (by have := bulks_mem (List.getElem_mem (l := t.kids) (n := 0) hk0); omega)) rfl rfl rfl trivial) rfl ?_
      refine RO.op0n (O' := [_, _]) (opv_store_term rfl rfl rfl (Nat.le_of_ble_eq_true rfl)) rfl ?_
      refine RO.nil ?_
      refine Runs.ret ?_
      refine thenQ_ret ?_
      refine EndQ.cell_term (.inr rfl) rfl rfl rfl rfl 0 (by exact Nat.le_refl _) (by exact Nat.zero_le _) ⟨?_, rfl⟩
      refine term_eq ?_; rw [erase_seal (isS_iff.2 ⟨h4, hq⟩) hk0]
    · try simp only [Z.a, Z.b, Z.c, Z.d, Z.e, Z.f, Z.g, Z.h, Z.i, Z.j, Z.k, Z.l, Z.m] at h2
      have hq : ¬ t.kids.length = 1 := by omega
      refine RO.nil ?_
      refine Runs.condF rfl ?_
      refine Runs.skip ?_
      refine thenQ_normal ?_
      refine Runs.has [(1, .ref 0 0), (2, .ref 1 0)] ⟨rfl, rfl, trivial⟩ ?_
      refine Runs.newbuf 47 4 ?_
      refine Runs.rseq ?_
      refine RO.opv (v' := .ref 0 0) (opv_field_ref rfl rfl) rfl ?_
      refine RO.opv (v' := .d (.int _ _)) (opv_load_ref rfl rfl rfl) rfl ?_
      refine RO.opv (v' := .ref 0 1) (opv_field_ref rfl rfl) rfl ?_
      refine RO.opv (v' := .d (.int _ _)) (opv_load_ref rfl rfl rfl) rfl ?_
      refine RO.opv (v' := .ref 0 2) (opv_field_ref rfl rfl) rfl ?_
      refine RO.opv (v' := .d (.str _)) (opv_load_ref rfl rfl rfl) rfl ?_
      refine RO.opv (v' := .agg _) (opv_build_own 2 3 rfl rfl rfl) rfl ?_
      refine RO.opn (v' := .ref 3 0) (O' := [_, _, _, _]) (opv_alloc) rfl rfl ?_
      refine RO.op0n (O' := [_, _, _, _]) (opv_store_ref rfl rfl rfl rfl rfl (Nat.le_of_ble_eq_true rfl) rfl) rfl ?_
      refine RO.nil ?_
      refine Runs.has [(1, .ref 0 0), (2, .ref 1 0), (3, .ref 3 0)] ⟨rfl, rfl, rfl, trivial⟩ ?_
      refine Runs.seq ?_
      refine Runs.rseq ?_
      refine RO.opv (v' := .d (.int _ _)) (opv_assign rfl) rfl ?_
      refine RO.nil ?_
      refine Runs.block ?_
      refine Runs.loopC (X := Nat) (fun i => i ≤ t.kids.length) (fun i => t.kids.length - i) [(1, .ref 0 0), (2, .ref 1 0), (3, .ref 3 0)] (fun i => [(4, .d (.int .i64 (i : Nat)))]) [_, _] (fun i => [.buf 47 4 (encs (erases (t.kids.take i))) i, .cells [.d (.int .i64 t.kind), .d (.int .i64 t.num), .d (.str t.name), .own 2 i]]) (0) ⟨rfl, rfl, rfl, trivial⟩ ⟨rfl, trivial⟩ rfl (by omega) fun i hi => ?_
      refine Runs.seq ?_
      refine Runs.rseq ?_
      refine RO.opv (v' := .d (.int _ _)) (opv_move rfl) rfl ?_
      refine RO.opv (v' := .ref 0 3) (opv_field_ref rfl rfl) rfl ?_
      refine RO.opv (v' := .d (.list (encs _))) (opv_load_ref rfl rfl rfl) rfl ?_
      refine RO.opv (v' := .d (.int _ _)) (opv_len_terms rfl) rfl ?_
      refine RO.opc (opv_bin rfl rfl rfl) (fun h3 => ?_) (fun h3 => ?_)
      · try simp only [Z.a, Z.b, Z.c, Z.d, Z.e, Z.f, Z.g, Z.h, Z.i, Z.j, Z.k, Z.l, Z.m] at h3
        have hk : i < t.kids.length := by omega
        refine RO.nil ?_
        refine Runs.condT rfl ?_
        refine Runs.skip ?_
        refine thenQ_normal ?_
        refine Runs.has [(1, .ref 0 0), (2, .ref 1 0), (3, .ref 3 0), (4, .d (.int _ _))] ⟨rfl, rfl, rfl, rfl, trivial⟩ ?_
        refine Runs.seq ?_
        refine Runs.block ?_
        refine Runs.drawn (by kernel_rfl) [] [false, false, false, false, false, false, false, false, false, false, false, false] [false, false, false, false, false, false, false, false, false, true, false, true] (by decide +kernel) ?_
        refine RD.opv (v' := .ref 3 3) (opv_field_ref rfl rfl) rfl ?_
        refine RD.opv (v' := .own 2 _) (opv_load_ref rfl rfl rfl) rfl ?_
        refine RD.opv (v' := .ref 0 3) (opv_field_ref rfl rfl) rfl ?_
        refine RD.opv (v' := .d (.list (encs _))) (opv_load_ref rfl rfl rfl) rfl ?_
        refine RD.opv (v' := .d (.int _ _)) (opv_move rfl) rfl ?_
        refine RD.opv (v' := .d (.ptr _)) (opv_index_terms rfl rfl (by omega)) rfl ?_
        refine RD.opv (v' := .d (enc _)) (opv_load_pterm rfl) rfl ?_
        refine RD.opv (v' := .d (enc _)) (opv_callF (ih t.kids[i] (by have := sizes_mem (List.getElem_mem (l := t.kids) (n := i) hk); omega) (by have := bulks_mem (List.getElem_mem (l := t.kids) (n := i) hk); omega)) rfl rfl rfl trivial) rfl ?_
        refine RD.opv (v' := .d (.list (encs _))) (opv_bs_term1 rfl ) rfl ?_
        refine RD.opn (v' := .own 2 _) (O' := [_, _, _, _]) (opv_append_terms rfl rfl rfl (by rw [erases_len]; simp; omega)) rfl rfl trivial ?_
        refine RD.opv (v' := .ref 3 3) (opv_field_ref rfl rfl) rfl ?_
        refine RD.op0n (O' := [_, _, _, _]) (opv_store_ref rfl rfl rfl rfl rfl (Nat.le_of_ble_eq_true rfl) rfl) rfl trivial ?_
        refine RD.nil ?_
        refine blockQ_normal ?_
        refine thenQ_normal ?_
        refine Runs.has [(1, .ref 0 0), (2, .ref 1 0), (3, .ref 3 0), (4, .d (.int _ _))] ⟨rfl, rfl, rfl, rfl, trivial⟩ ?_
        refine Runs.region ?_
        refine RO.opv (v' := .d (.int _ _)) (opv_move rfl) rfl ?_
        refine RO.opv (v' := .d (.int _ _)) (opv_bin rfl rfl rfl) rfl ?_
        refine RO.opv (v' := .d (.int _ _)) (opv_assign rfl) rfl ?_
        refine RO.nil ?_
        refine thenQ_normal ?_
        refine ⟨i+1, 4, (by rw [hK]; exact Nat.le_of_ble_eq_true rfl), ⟨rfl, rfl, rfl, trivial⟩, ⟨?_, trivial⟩, ?_, ?_, ?_⟩
        · refine int_eq ?_; rw [wrap64 (by omega) (by omega)]; omega
        · rw [erases_take hk]; rfl
        · omega
        · omega
      · try simp only [Z.a, Z.b, Z.c, Z.d, Z.e, Z.f, Z.g, Z.h, Z.i, Z.j, Z.k, Z.l, Z.m] at h3
        have hk : i = t.kids.length := by omega
        refine RO.nil ?_
        refine Runs.condF rfl ?_
        refine Runs.exit ?_
        refine thenQ_exit ?_
        refine thenQ_exit ?_
        refine blockQ_here ?_
        refine thenQ_normal ?_
        refine Runs.has [(2, .ref 1 0), (3, .ref 3 0)] ⟨rfl, rfl, trivial⟩ ?_
        refine Runs.shutC 3 3 rfl rfl rfl ?_
        refine Runs.rseq ?_
        refine RO.opv (v' := .d (enc _)) (opv_load_node rfl rfl rfl rfl) rfl ?_
        refine RO.op0n (O' := [_, _, _, _]) (opv_store_term rfl rfl rfl (Nat.le_of_ble_eq_true rfl)) rfl ?_
        refine RO.nil ?_
        refine Runs.ret ?_
        refine EndQ.cell_term (.inr rfl) rfl rfl rfl rfl 0 (by exact Nat.le_refl _) (by exact Nat.zero_le _) ⟨?_, rfl⟩
        refine term_eq ?_; rw [erase_node (by rw [Bool.eq_false_iff]; intro e; have := isS_iff.1 e; omega), hk, List.take_length]
  · try simp only [Z.a, Z.b, Z.c, Z.d, Z.e, Z.f, Z.g, Z.h, Z.i, Z.j, Z.k, Z.l, Z.m] at h1
    have h4 : ¬ t.kind = 4 := h1
    refine RO.off rfl ?_
    refine RO.off rfl ?_
    refine RO.off rfl ?_
    refine RO.off rfl ?_
    refine RO.opv (v' := .d (.bool false)) (opv_pick rfl rfl) rfl ?_
    refine RO.nil ?_
    refine Runs.condF rfl ?_
    refine Runs.skip ?_
    refine thenQ_normal ?_
    refine Runs.has [(1, .ref 0 0), (2, .ref 1 0)] ⟨rfl, rfl, trivial⟩ ?_
    refine Runs.newbuf 47 4 ?_
    refine Runs.rseq ?_
    refine RO.opv (v' := .ref 0 0) (opv_field_ref rfl rfl) rfl ?_
    refine RO.opv (v' := .d (.int _ _)) (opv_load_ref rfl rfl rfl) rfl ?_
    refine RO.opv (v' := .ref 0 1) (opv_field_ref rfl rfl) rfl ?_
    refine RO.opv (v' := .d (.int _ _)) (opv_load_ref rfl rfl rfl) rfl ?_
    refine RO.opv (v' := .ref 0 2) (opv_field_ref rfl rfl) rfl ?_
    refine RO.opv (v' := .d (.str _)) (opv_load_ref rfl rfl rfl) rfl ?_
    refine RO.opv (v' := .agg _) (opv_build_own 2 3 rfl rfl rfl) rfl ?_
    refine RO.opn (v' := .ref 3 0) (O' := [_, _, _, _]) (opv_alloc) rfl rfl ?_
    refine RO.op0n (O' := [_, _, _, _]) (opv_store_ref rfl rfl rfl rfl rfl (Nat.le_of_ble_eq_true rfl) rfl) rfl ?_
    refine RO.nil ?_
    refine Runs.has [(1, .ref 0 0), (2, .ref 1 0), (3, .ref 3 0)] ⟨rfl, rfl, rfl, trivial⟩ ?_
    refine Runs.seq ?_
    refine Runs.rseq ?_
    refine RO.opv (v' := .d (.int _ _)) (opv_assign rfl) rfl ?_
    refine RO.nil ?_
    refine Runs.block ?_
    refine Runs.loopC (X := Nat) (fun i => i ≤ t.kids.length) (fun i => t.kids.length - i) [(1, .ref 0 0), (2, .ref 1 0), (3, .ref 3 0)] (fun i => [(4, .d (.int .i64 (i : Nat)))]) [_, _] (fun i => [.buf 47 4 (encs (erases (t.kids.take i))) i, .cells [.d (.int .i64 t.kind), .d (.int .i64 t.num), .d (.str t.name), .own 2 i]]) (0) ⟨rfl, rfl, rfl, trivial⟩ ⟨rfl, trivial⟩ rfl (by omega) fun i hi => ?_
    refine Runs.seq ?_
    refine Runs.rseq ?_
    refine RO.opv (v' := .d (.int _ _)) (opv_move rfl) rfl ?_
    refine RO.opv (v' := .ref 0 3) (opv_field_ref rfl rfl) rfl ?_
    refine RO.opv (v' := .d (.list (encs _))) (opv_load_ref rfl rfl rfl) rfl ?_
    refine RO.opv (v' := .d (.int _ _)) (opv_len_terms rfl) rfl ?_
    refine RO.opc (opv_bin rfl rfl rfl) (fun h4 => ?_) (fun h4 => ?_)
    · try simp only [Z.a, Z.b, Z.c, Z.d, Z.e, Z.f, Z.g, Z.h, Z.i, Z.j, Z.k, Z.l, Z.m] at h4
      have hk : i < t.kids.length := by omega
      refine RO.nil ?_
      refine Runs.condT rfl ?_
      refine Runs.skip ?_
      refine thenQ_normal ?_
      refine Runs.has [(1, .ref 0 0), (2, .ref 1 0), (3, .ref 3 0), (4, .d (.int _ _))] ⟨rfl, rfl, rfl, rfl, trivial⟩ ?_
      refine Runs.seq ?_
      refine Runs.block ?_
      refine Runs.drawn (by kernel_rfl) [] [false, false, false, false, false, false, false, false, false, false, false, false] [false, false, false, false, false, false, false, false, false, true, false, true] (by decide +kernel) ?_
      refine RD.opv (v' := .ref 3 3) (opv_field_ref rfl rfl) rfl ?_
      refine RD.opv (v' := .own 2 _) (opv_load_ref rfl rfl rfl) rfl ?_
      refine RD.opv (v' := .ref 0 3) (opv_field_ref rfl rfl) rfl ?_
      refine RD.opv (v' := .d (.list (encs _))) (opv_load_ref rfl rfl rfl) rfl ?_
      refine RD.opv (v' := .d (.int _ _)) (opv_move rfl) rfl ?_
      refine RD.opv (v' := .d (.ptr _)) (opv_index_terms rfl rfl (by omega)) rfl ?_
      refine RD.opv (v' := .d (enc _)) (opv_load_pterm rfl) rfl ?_
      refine RD.opv (v' := .d (enc _)) (opv_callF (ih t.kids[i] (by have := sizes_mem (List.getElem_mem (l := t.kids) (n := i) hk); omega) (by have := bulks_mem (List.getElem_mem (l := t.kids) (n := i) hk); omega)) rfl rfl rfl trivial) rfl ?_
      refine RD.opv (v' := .d (.list (encs _))) (opv_bs_term1 rfl ) rfl ?_
      refine RD.opn (v' := .own 2 _) (O' := [_, _, _, _]) (opv_append_terms rfl rfl rfl (by rw [erases_len]; simp; omega)) rfl rfl trivial ?_
      refine RD.opv (v' := .ref 3 3) (opv_field_ref rfl rfl) rfl ?_
      refine RD.op0n (O' := [_, _, _, _]) (opv_store_ref rfl rfl rfl rfl rfl (Nat.le_of_ble_eq_true rfl) rfl) rfl trivial ?_
      refine RD.nil ?_
      refine blockQ_normal ?_
      refine thenQ_normal ?_
      refine Runs.has [(1, .ref 0 0), (2, .ref 1 0), (3, .ref 3 0), (4, .d (.int _ _))] ⟨rfl, rfl, rfl, rfl, trivial⟩ ?_
      refine Runs.region ?_
      refine RO.opv (v' := .d (.int _ _)) (opv_move rfl) rfl ?_
      refine RO.opv (v' := .d (.int _ _)) (opv_bin rfl rfl rfl) rfl ?_
      refine RO.opv (v' := .d (.int _ _)) (opv_assign rfl) rfl ?_
      refine RO.nil ?_
      refine thenQ_normal ?_
      refine ⟨i+1, 4, (by rw [hK]; exact Nat.le_of_ble_eq_true rfl), ⟨rfl, rfl, rfl, trivial⟩, ⟨?_, trivial⟩, ?_, ?_, ?_⟩
      · refine int_eq ?_; rw [wrap64 (by omega) (by omega)]; omega
      · rw [erases_take hk]; rfl
      · omega
      · omega
    · try simp only [Z.a, Z.b, Z.c, Z.d, Z.e, Z.f, Z.g, Z.h, Z.i, Z.j, Z.k, Z.l, Z.m] at h4
      have hk : i = t.kids.length := by omega
      refine RO.nil ?_
      refine Runs.condF rfl ?_
      refine Runs.exit ?_
      refine thenQ_exit ?_
      refine thenQ_exit ?_
      refine blockQ_here ?_
      refine thenQ_normal ?_
      refine Runs.has [(2, .ref 1 0), (3, .ref 3 0)] ⟨rfl, rfl, trivial⟩ ?_
      refine Runs.shutC 3 3 rfl rfl rfl ?_
      refine Runs.rseq ?_
      refine RO.opv (v' := .d (enc _)) (opv_load_node rfl rfl rfl rfl) rfl ?_
      refine RO.op0n (O' := [_, _, _, _]) (opv_store_term rfl rfl rfl (Nat.le_of_ble_eq_true rfl)) rfl ?_
      refine RO.nil ?_
      refine Runs.ret ?_
      refine EndQ.cell_term (.inr rfl) rfl rfl rfl rfl 0 (by exact Nat.le_refl _) (by exact Nat.zero_le _) ⟨?_, rfl⟩
      refine term_eq ?_; rw [erase_node (by rw [Bool.eq_false_iff]; intro e; have := isS_iff.1 e; omega), hk, List.take_length]
theorem rerase_fn (t : Term) (hb : t.bulk ≤ 2 ^ 30) : Fn Try.prog 47 [.d (enc t)] [] (.d (enc t.erase)) [] := rerase_aux t.size t (Nat.le_refl _) hb
theorem rsj_aux (M : List (List Bool)) (l : Lt) (hM : Mt M l) : ∀ (m : Nat) (t : Term), t.size ≤ m → t.bulk ≤ 2 ^ 30 → Fn Try.prog 45 [.d (encR M), .d (enc t)] [] (.d (.int .i64 (t.sj l))) [] := by
  intro m
  induction m with
  | zero => intro t h; have := t.size_kids; omega
  | succ m ih =>
  intro t hm hb
  have hS := t.size_kids
  have hU := t.bulk_kids
  have hL := bulks_len t.kids
  refine Does.run Try.func45 rfl Try.ntmps45 rfl fun K hK => ?_
  refine Runs.rseq ?_
  refine RO.opn (v' := .ref 0 0) (O' := [_]) (opv_box rfl rfl) rfl rfl ?_
  refine RO.opn (v' := .ref 1 0) (O' := [_, _]) (opv_box_term rfl) rfl rfl ?_
  refine RO.opv (v' := .d (.int _ _)) (opv_assign rfl) rfl ?_
  refine RO.nil ?_
  refine Runs.has [(2, .ref 0 0), (3, .ref 1 0), (4, .d (.int _ _))] ⟨rfl, rfl, rfl, trivial⟩ ?_
  refine Runs.rseq ?_
  refine RO.opv (v' := .d (encR _)) (opv_load_ref rfl rfl rfl) rfl ?_
  refine RO.opv (v' := .d (.int _ _)) (opv_callF (mbot_fn M l hM) rfl rfl rfl trivial) rfl ?_
  refine RO.opv (v' := .d (.int _ _)) (opv_assign rfl) rfl ?_
  refine RO.nil ?_
  refine Runs.has [(2, .ref 0 0), (3, .ref 1 0), (4, .d (.int _ _)), (5, .d (.int _ _))] ⟨rfl, rfl, rfl, rfl, trivial⟩ ?_
  refine Runs.seq ?_
  refine Runs.rseq ?_
  refine RO.opv (v' := .ref 1 0) (opv_field_ref rfl rfl) rfl ?_
  refine RO.opv (v' := .d (.int _ _)) (opv_load_ref rfl rfl rfl) rfl ?_
  refine RO.opc (opv_bin rfl rfl rfl) (fun h1 => ?_) (fun h1 => ?_)
  · try simp only [Z.a, Z.b, Z.c, Z.d, Z.e, Z.f, Z.g, Z.h, Z.i, Z.j, Z.k, Z.l, Z.m] at h1
    have h4 : t.kind = 4 := h1
    refine RO.nil ?_
    refine Runs.condT rfl ?_
    refine Runs.has [(2, .ref 0 0), (3, .ref 1 0), (4, .d (.int _ _)), (5, .d (.int _ _))] ⟨rfl, rfl, rfl, rfl, trivial⟩ ?_
    refine Runs.region ?_
    refine RO.opv (v' := .d (encR _)) (opv_load_ref rfl rfl rfl) rfl ?_
    refine RO.opv (v' := .d (enc _)) (opv_load_term rfl rfl rfl) rfl ?_
    refine RO.opv (v' := .d (.int _ _)) (opv_callF (rlev4_fn M l hM t) rfl rfl rfl trivial) rfl ?_
    refine RO.opv (v' := .d (.int _ _)) (opv_assign rfl) rfl ?_
    refine RO.nil ?_
    refine thenQ_normal ?_
    refine Runs.has [(2, .ref 0 0), (3, .ref 1 0), (4, .d (.int _ _)), (5, .d (.int _ _))] ⟨rfl, rfl, rfl, rfl, trivial⟩ ?_
    refine Runs.seq ?_
    refine Runs.rseq ?_
    refine RO.opv (v' := .d (.int _ _)) (opv_assign rfl) rfl ?_
    refine RO.nil ?_
    refine Runs.block ?_
    refine Runs.loopC (X := Nat) (fun i => i ≤ t.kids.length) (fun i => t.kids.length - i) [(2, .ref 0 0), (3, .ref 1 0), (4, .d (.int _ _))] (fun i => [(5, .d (.int .i64 (sjs l (t.kids.take i) (if t.kind = 4 then l.lev t.num else l.bottom)))), (6, .d (.int .i64 (i : Nat)))]) [_, _] (fun i => []) (0) ⟨rfl, rfl, rfl, trivial⟩ ⟨(int_eq (if_pos h4).symm), rfl, trivial⟩ rfl (by omega) fun i hi => ?_
    refine Runs.seq ?_
    refine Runs.rseq ?_
    refine RO.opv (v' := .d (.int _ _)) (opv_move rfl) rfl ?_
    refine RO.opv (v' := .ref 1 3) (opv_field_ref rfl rfl) rfl ?_
    refine RO.opv (v' := .d (.list (encs _))) (opv_load_ref rfl rfl rfl) rfl ?_
    refine RO.opv (v' := .d (.int _ _)) (opv_len_terms rfl) rfl ?_
    refine RO.opc (opv_bin rfl rfl rfl) (fun h2 => ?_) (fun h2 => ?_)
    · try simp only [Z.a, Z.b, Z.c, Z.d, Z.e, Z.f, Z.g, Z.h, Z.i, Z.j, Z.k, Z.l, Z.m] at h2
      have hk : i < t.kids.length := by omega
      refine RO.nil ?_
      refine Runs.condT rfl ?_
      refine Runs.skip ?_
      refine thenQ_normal ?_
      refine Runs.has [(2, .ref 0 0), (3, .ref 1 0), (4, .d (.int _ _)), (5, .d (.int _ _)), (6, .d (.int _ _))] ⟨rfl, rfl, rfl, rfl, rfl, trivial⟩ ?_
      refine Runs.seq ?_
      refine Runs.block ?_
      refine Runs.drawn (by kernel_rfl) [] [false, false, false, false, false, false, false, false, false, false, false] [false, false, false, false, false, false, false, false, false, false, false] (by decide +kernel) ?_
      refine RD.opv (v' := .d (encR _)) (opv_load_ref rfl rfl rfl) rfl ?_
      refine RD.opv (v' := .d (.int _ _)) (opv_move rfl) rfl ?_
      refine RD.opv (v' := .d (encR _)) (opv_load_ref rfl rfl rfl) rfl ?_
      refine RD.opv (v' := .ref 1 3) (opv_field_ref rfl rfl) rfl ?_
      refine RD.opv (v' := .d (.list (encs _))) (opv_load_ref rfl rfl rfl) rfl ?_
      refine RD.opv (v' := .d (.int _ _)) (opv_move rfl) rfl ?_
      refine RD.opv (v' := .d (.ptr _)) (opv_index_terms rfl rfl (by omega)) rfl ?_
      refine RD.opv (v' := .d (enc _)) (opv_load_pterm rfl) rfl ?_
      refine RD.opv (v' := .d (.int _ _)) (opv_callF (ih t.kids[i] (by have := sizes_mem (List.getElem_mem (l := t.kids) (n := i) hk); omega) (by have := bulks_mem (List.getElem_mem (l := t.kids) (n := i) hk); omega)) rfl rfl rfl trivial) rfl ?_
      refine RD.opv (v' := .d (.int _ _)) (opv_callF (mjoin_fn M l hM _ _) rfl rfl rfl trivial) rfl ?_
      refine RD.opv (v' := .d (.int _ _)) (opv_assign rfl) rfl ?_
      refine RD.nil ?_
      refine blockQ_normal ?_
      refine thenQ_normal ?_
      refine Runs.has [(2, .ref 0 0), (3, .ref 1 0), (4, .d (.int _ _)), (5, .d (.int _ _)), (6, .d (.int _ _))] ⟨rfl, rfl, rfl, rfl, rfl, trivial⟩ ?_
      refine Runs.region ?_
      refine RO.opv (v' := .d (.int _ _)) (opv_move rfl) rfl ?_
      refine RO.opv (v' := .d (.int _ _)) (opv_bin rfl rfl rfl) rfl ?_
      refine RO.opv (v' := .d (.int _ _)) (opv_assign rfl) rfl ?_
      refine RO.nil ?_
      refine thenQ_normal ?_
      refine ⟨i + 1, 2, (by rw [hK]; exact Nat.le_of_ble_eq_true rfl), ⟨rfl, rfl, rfl, trivial⟩, ⟨?_, ?_, trivial⟩, rfl, ?_, ?_⟩
      · refine int_eq ?_; rw [sjs_take l hk]
      · refine int_eq ?_; rw [wrap64 (by omega) (by omega)]; omega
      · omega
      · omega
    · try simp only [Z.a, Z.b, Z.c, Z.d, Z.e, Z.f, Z.g, Z.h, Z.i, Z.j, Z.k, Z.l, Z.m] at h2
      have hk : i = t.kids.length := by omega
      refine RO.nil ?_
      refine Runs.condF rfl ?_
      refine Runs.exit ?_
      refine thenQ_exit ?_
      refine thenQ_exit ?_
      refine blockQ_here ?_
      refine thenQ_normal ?_
      refine Runs.has [(4, .d (.int _ _)), (5, .d (.int _ _))] ⟨rfl, rfl, trivial⟩ ?_
      refine Runs.rseq ?_
      refine RO.opv (v' := .d (.int _ _)) (opv_move rfl) rfl ?_
      refine RO.opv (v' := .d (.int _ _)) (opv_assign rfl) rfl ?_
      refine RO.nil ?_
      refine Runs.ret ?_
      refine EndQ.tmp (.inr rfl) rfl rfl 0 (by exact Nat.le_refl _) (by exact Nat.zero_le _) trivial ⟨?_, rfl⟩
      refine int_eq ?_; rw [sj_eq, hk, List.take_length]
  · try simp only [Z.a, Z.b, Z.c, Z.d, Z.e, Z.f, Z.g, Z.h, Z.i, Z.j, Z.k, Z.l, Z.m] at h1
    have h4 : ¬ t.kind = 4 := h1
    refine RO.nil ?_
    refine Runs.condF rfl ?_
    refine Runs.skip ?_
    refine thenQ_normal ?_
    refine Runs.has [(2, .ref 0 0), (3, .ref 1 0), (4, .d (.int _ _)), (5, .d (.int _ _))] ⟨rfl, rfl, rfl, rfl, trivial⟩ ?_
    refine Runs.seq ?_
    refine Runs.rseq ?_
    refine RO.opv (v' := .d (.int _ _)) (opv_assign rfl) rfl ?_
    refine RO.nil ?_
    refine Runs.block ?_
    refine Runs.loopC (X := Nat) (fun i => i ≤ t.kids.length) (fun i => t.kids.length - i) [(2, .ref 0 0), (3, .ref 1 0), (4, .d (.int _ _))] (fun i => [(5, .d (.int .i64 (sjs l (t.kids.take i) (if t.kind = 4 then l.lev t.num else l.bottom)))), (6, .d (.int .i64 (i : Nat)))]) [_, _] (fun i => []) (0) ⟨rfl, rfl, rfl, trivial⟩ ⟨(int_eq (if_neg h4).symm), rfl, trivial⟩ rfl (by omega) fun i hi => ?_
    refine Runs.seq ?_
    refine Runs.rseq ?_
    refine RO.opv (v' := .d (.int _ _)) (opv_move rfl) rfl ?_
    refine RO.opv (v' := .ref 1 3) (opv_field_ref rfl rfl) rfl ?_
    refine RO.opv (v' := .d (.list (encs _))) (opv_load_ref rfl rfl rfl) rfl ?_
    refine RO.opv (v' := .d (.int _ _)) (opv_len_terms rfl) rfl ?_
    refine RO.opc (opv_bin rfl rfl rfl) (fun h3 => ?_) (fun h3 => ?_)
    · try simp only [Z.a, Z.b, Z.c, Z.d, Z.e, Z.f, Z.g, Z.h, Z.i, Z.j, Z.k, Z.l, Z.m] at h3
      have hk : i < t.kids.length := by omega
      refine RO.nil ?_
      refine Runs.condT rfl ?_
      refine Runs.skip ?_
      refine thenQ_normal ?_
      refine Runs.has [(2, .ref 0 0), (3, .ref 1 0), (4, .d (.int _ _)), (5, .d (.int _ _)), (6, .d (.int _ _))] ⟨rfl, rfl, rfl, rfl, rfl, trivial⟩ ?_
      refine Runs.seq ?_
      refine Runs.block ?_
      refine Runs.drawn (by kernel_rfl) [] [false, false, false, false, false, false, false, false, false, false, false] [false, false, false, false, false, false, false, false, false, false, false] (by decide +kernel) ?_
      refine RD.opv (v' := .d (encR _)) (opv_load_ref rfl rfl rfl) rfl ?_
      refine RD.opv (v' := .d (.int _ _)) (opv_move rfl) rfl ?_
      refine RD.opv (v' := .d (encR _)) (opv_load_ref rfl rfl rfl) rfl ?_
      refine RD.opv (v' := .ref 1 3) (opv_field_ref rfl rfl) rfl ?_
      refine RD.opv (v' := .d (.list (encs _))) (opv_load_ref rfl rfl rfl) rfl ?_
      refine RD.opv (v' := .d (.int _ _)) (opv_move rfl) rfl ?_
      refine RD.opv (v' := .d (.ptr _)) (opv_index_terms rfl rfl (by omega)) rfl ?_
      refine RD.opv (v' := .d (enc _)) (opv_load_pterm rfl) rfl ?_
      refine RD.opv (v' := .d (.int _ _)) (opv_callF (ih t.kids[i] (by have := sizes_mem (List.getElem_mem (l := t.kids) (n := i) hk); omega) (by have := bulks_mem (List.getElem_mem (l := t.kids) (n := i) hk); omega)) rfl rfl rfl trivial) rfl ?_
      refine RD.opv (v' := .d (.int _ _)) (opv_callF (mjoin_fn M l hM _ _) rfl rfl rfl trivial) rfl ?_
      refine RD.opv (v' := .d (.int _ _)) (opv_assign rfl) rfl ?_
      refine RD.nil ?_
      refine blockQ_normal ?_
      refine thenQ_normal ?_
      refine Runs.has [(2, .ref 0 0), (3, .ref 1 0), (4, .d (.int _ _)), (5, .d (.int _ _)), (6, .d (.int _ _))] ⟨rfl, rfl, rfl, rfl, rfl, trivial⟩ ?_
      refine Runs.region ?_
      refine RO.opv (v' := .d (.int _ _)) (opv_move rfl) rfl ?_
      refine RO.opv (v' := .d (.int _ _)) (opv_bin rfl rfl rfl) rfl ?_
      refine RO.opv (v' := .d (.int _ _)) (opv_assign rfl) rfl ?_
      refine RO.nil ?_
      refine thenQ_normal ?_
      refine ⟨i + 1, 2, (by rw [hK]; exact Nat.le_of_ble_eq_true rfl), ⟨rfl, rfl, rfl, trivial⟩, ⟨?_, ?_, trivial⟩, rfl, ?_, ?_⟩
      · refine int_eq ?_; rw [sjs_take l hk]
      · refine int_eq ?_; rw [wrap64 (by omega) (by omega)]; omega
      · omega
      · omega
    · try simp only [Z.a, Z.b, Z.c, Z.d, Z.e, Z.f, Z.g, Z.h, Z.i, Z.j, Z.k, Z.l, Z.m] at h3
      have hk : i = t.kids.length := by omega
      refine RO.nil ?_
      refine Runs.condF rfl ?_
      refine Runs.exit ?_
      refine thenQ_exit ?_
      refine thenQ_exit ?_
      refine blockQ_here ?_
      refine thenQ_normal ?_
      refine Runs.has [(4, .d (.int _ _)), (5, .d (.int _ _))] ⟨rfl, rfl, trivial⟩ ?_
      refine Runs.rseq ?_
      refine RO.opv (v' := .d (.int _ _)) (opv_move rfl) rfl ?_
      refine RO.opv (v' := .d (.int _ _)) (opv_assign rfl) rfl ?_
      refine RO.nil ?_
      refine Runs.ret ?_
      refine EndQ.tmp (.inr rfl) rfl rfl 0 (by exact Nat.le_refl _) (by exact Nat.zero_le _) trivial ⟨?_, rfl⟩
      refine int_eq ?_; rw [sj_eq, hk, List.take_length]
theorem rsjoin_fn (M : List (List Bool)) (l : Lt) (hM : Mt M l) (t : Term) (hb : t.bulk ≤ 2 ^ 30) : Fn Try.prog 45 [.d (encR M), .d (enc t)] [] (.d (.int .i64 (t.sj l))) [] := rsj_aux M l hM t.size t (Nat.le_refl _) hb
end Go.Proofs.Ytohncglpjiplaaa.AM
