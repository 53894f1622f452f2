import Derived.Test.YthpiggjclhnkcaaTm
namespace Go.Proofs.Ythpiggjclhnkcaa.AM
open Go
set_option linter.unusedVariables false
set_option linter.unusedSimpArgs false
theorem rsize_aux  : ∀ (m : Nat) (t : Term), t.size ≤ m → t.bulk ≤ 2 ^ 30 → Fn Try.prog 34 [.d (enc t)] [] (.d (.int .i64 (t.size : Nat))) [] := by
  intro m
  induction m with
  | zero => intro t h; have := t.size_kids; omega
  | succ m ih =>
  intro t hm hb
  have hS := t.size_kids
  have hU := t.bulk_kids
  have hL := bulks_len t.kids
  have hY := sizes_bulks t.kids
  refine Does.run Try.func34 rfl Try.ntmps34 rfl fun K hK => ?_
  refine Runs.rseq ?_
  refine RO.opn (v' := .ref 0 0) (O' := [_]) (opv_box_term rfl) rfl rfl ?_
  refine RO.opv (v' := .d (.int _ _)) (opv_assign rfl) rfl ?_
  refine RO.nil ?_
  refine Runs.has [(1, .ref 0 0), (2, .d (.int _ _))] ⟨rfl, rfl, trivial⟩ ?_
  refine Runs.rseq ?_
  refine RO.opv (v' := .d (.int _ _)) (opv_assign rfl) rfl ?_
  refine RO.nil ?_
  refine Runs.seq ?_
  refine Runs.rseq ?_
  refine RO.opv (v' := .d (.int _ _)) (opv_assign rfl) rfl ?_
  refine RO.nil ?_
  refine Runs.block ?_
  refine Runs.loopC (X := Nat) (fun i => i ≤ t.kids.length) (fun i => t.kids.length - i) [(1, .ref 0 0), (2, .d (.int _ _))] (fun i => [(3, .d (.int .i64 ((1 + sizes (t.kids.take i) : Nat) : Int))), (4, .d (.int .i64 (i : Nat)))]) [_] (fun i => []) (0) ⟨rfl, rfl, trivial⟩ ⟨rfl, rfl, trivial⟩ rfl (by omega) fun i hi => ?_
  refine Runs.seq ?_
  refine Runs.rseq ?_
  refine RO.opv (v' := .d (.int _ _)) (opv_move rfl) rfl ?_
  refine RO.opv (v' := .ref 0 3) (opv_field_ref rfl rfl) rfl ?_
  refine RO.opv (v' := .d (.list (encs _))) (opv_load_ref rfl rfl rfl) rfl ?_
  refine RO.opv (v' := .d (.int _ _)) (opv_len_terms rfl) rfl ?_
  refine RO.opc (opv_bin rfl rfl rfl) (fun h1 => ?_) (fun h1 => ?_)
  · try simp only [Z.a, Z.b, Z.c, Z.d, Z.e, Z.f, Z.g, Z.h, Z.i, Z.j, Z.k, Z.l, Z.m] at h1
    have h1 : i < t.kids.length := by omega
    refine RO.nil ?_
    refine Runs.condT rfl ?_
    refine Runs.skip ?_
    refine thenQ_normal ?_
    refine Runs.has [(1, .ref 0 0), (2, .d (.int _ _)), (3, .d (.int _ _)), (4, .d (.int _ _))] ⟨rfl, rfl, rfl, rfl, trivial⟩ ?_
    refine Runs.seq ?_
    refine Runs.block ?_
    refine Runs.region ?_
    refine RO.opv (v' := .d (.int _ _)) (opv_move rfl) rfl ?_
    refine RO.opv (v' := .ref 0 3) (opv_field_ref rfl rfl) rfl ?_
    refine RO.opv (v' := .d (.list (encs _))) (opv_load_ref rfl rfl rfl) rfl ?_
    refine RO.opv (v' := .d (.int _ _)) (opv_move rfl) rfl ?_
    refine RO.opv (v' := .d (.ptr _)) (opv_index_terms rfl rfl (by omega)) rfl ?_
    refine RO.opv (v' := .d (enc _)) (opv_load_pterm rfl) rfl ?_
    refine RO.opv (v' := .d (.int _ _)) (opv_callF (ih t.kids[i] (by have := sizes_mem (List.getElem_mem h1); omega) (by have := bulks_mem (List.getElem_mem h1); omega)) rfl rfl rfl trivial) rfl ?_
    refine RO.opv (v' := .d (.int _ _)) (opv_bin rfl rfl rfl) rfl ?_
    refine RO.opv (v' := .d (.int _ _)) (opv_assign rfl) rfl ?_
    refine RO.nil ?_
    refine blockQ_normal ?_
    refine thenQ_normal ?_
    refine Runs.has [(1, .ref 0 0), (2, .d (.int _ _)), (3, .d (.int _ _)), (4, .d (.int _ _))] ⟨rfl, rfl, rfl, rfl, trivial⟩ ?_
    refine Runs.region ?_
    refine RO.opv (v' := .d (.int _ _)) (opv_move rfl) rfl ?_
    refine RO.opv (v' := .d (.int _ _)) (opv_bin rfl rfl rfl) rfl ?_
    refine RO.opv (v' := .d (.int _ _)) (opv_assign rfl) rfl ?_
    refine RO.nil ?_
    refine thenQ_normal ?_
    refine ⟨i+1, 1, (by rw [hK]; exact Nat.le_of_ble_eq_true rfl), ⟨rfl, rfl, trivial⟩, ⟨?_, ?_, trivial⟩, rfl, ?_, ?_⟩
    · refine int_eq ?_; have hs := sizes_take t.kids i t.kids[i] (by simp); have := sizes_take_le t.kids (i + 1); rw [wrap64 (by omega) (by omega)]; omega
    · refine int_eq ?_; rw [wrap64 (by omega) (by omega)]; omega
    · omega
    · omega
  · try simp only [Z.a, Z.b, Z.c, Z.d, Z.e, Z.f, Z.g, Z.h, Z.i, Z.j, Z.k, Z.l, Z.m] at h1
    have h1 : i = t.kids.length := by omega
    refine RO.nil ?_
    refine Runs.condF rfl ?_
    refine Runs.exit ?_
    refine thenQ_exit ?_
    refine thenQ_exit ?_
    refine blockQ_here ?_
    refine thenQ_normal ?_
    refine Runs.has [(2, .d (.int _ _)), (3, .d (.int _ _))] ⟨rfl, rfl, trivial⟩ ?_
    refine Runs.rseq ?_
    refine RO.opv (v' := .d (.int _ _)) (opv_move rfl) rfl ?_
    refine RO.opv (v' := .d (.int _ _)) (opv_assign rfl) rfl ?_
    refine RO.nil ?_
    refine Runs.ret ?_
    refine EndQ.tmp (.inr rfl) rfl rfl 0 (by exact Nat.le_refl _) (by exact Nat.zero_le _) trivial ⟨?_, rfl⟩
    refine int_eq ?_; subst h1; rw [List.take_length, hS]; omega
theorem rsize_fn (t : Term) (hb : t.bulk ≤ 2 ^ 30) : Fn Try.prog 34 [.d (enc t)] [] (.d (.int .i64 (t.size : Nat))) [] := rsize_aux t.size t (Nat.le_refl _) hb
theorem rsame_aux  : ∀ (m : Nat) (t u : Term), t.size ≤ m → t.bulk ≤ 2 ^ 30 → u.bulk ≤ 2 ^ 30 → Fn Try.prog 45 [.d (enc t), .d (enc u)] [] (.d (.bool (same t u))) [] := by
  intro m
  induction m with
  | zero => intro t u h; have := t.size_kids; omega
  | succ m ih =>
  intro t u hm hb hb'
  have hS := t.size_kids
  have hU := t.bulk_kids
  have hU' := u.bulk_kids
  have hL := bulks_len t.kids
  refine Does.run Try.func45 rfl Try.ntmps45 rfl fun K hK => ?_
  refine Runs.rseq ?_
  refine RO.opn (v' := .ref 0 0) (O' := [_]) (opv_box_term rfl) rfl rfl ?_
  refine RO.opn (v' := .ref 1 0) (O' := [_, _]) (opv_box_term rfl) rfl rfl ?_
  refine RO.opv (v' := .d (.bool false)) (opv_assign rfl) rfl ?_
  refine RO.nil ?_
  refine Runs.has [(2, .ref 0 0), (3, .ref 1 0), (4, .d (.bool false))] ⟨rfl, rfl, rfl, trivial⟩ ?_
  refine Runs.seq ?_
  refine Runs.rseq ?_
  refine RO.opv (v' := .ref 0 0) (opv_field_ref rfl rfl) rfl ?_
  refine RO.opv (v' := .d (.int _ _)) (opv_load_ref rfl rfl rfl) rfl ?_
  refine RO.opv (v' := .ref 1 0) (opv_field_ref rfl rfl) rfl ?_
  refine RO.opv (v' := .d (.int _ _)) (opv_load_ref rfl rfl rfl) rfl ?_
  refine RO.opv (v' := .d (.bool _)) (opv_bin rfl rfl rfl) rfl ?_
  refine RO.opc (opv_move rfl) (fun h1 => ?_) (fun h1 => ?_)
  · try simp only [Z.a, Z.b, Z.c, Z.d, Z.e, Z.f, Z.g, Z.h, Z.i, Z.j, Z.k, Z.l, Z.m] at h1
    refine RO.off rfl ?_
    refine RO.off rfl ?_
    refine RO.off rfl ?_
    refine RO.off rfl ?_
    refine RO.off rfl ?_
    refine RO.opv (v' := .d (.bool true)) (opv_pick rfl rfl) rfl ?_
    refine RO.opv (v' := .d (.bool true)) (opv_move rfl) rfl ?_
    refine RO.off rfl ?_
    refine RO.off rfl ?_
    refine RO.off rfl ?_
    refine RO.off rfl ?_
    refine RO.off rfl ?_
    refine RO.opv (v' := .d (.bool true)) (opv_pick rfl rfl) rfl ?_
    refine RO.opv (v' := .d (.bool true)) (opv_move rfl) rfl ?_
    refine RO.off rfl ?_
    refine RO.off rfl ?_
    refine RO.off rfl ?_
    refine RO.off rfl ?_
    refine RO.off rfl ?_
    refine RO.off rfl ?_
    refine RO.off rfl ?_
    refine RO.opv (v' := .d (.bool true)) (opv_pick rfl rfl) rfl ?_
    refine RO.nil ?_
    refine Runs.condT rfl ?_
    refine Runs.has [(2, .ref 0 0), (3, .ref 1 0), (4, .d (.bool false))] ⟨rfl, rfl, rfl, trivial⟩ ?_
    refine Runs.rseq ?_
    refine RO.opv (v' := .d (.bool false)) (opv_assign rfl) rfl ?_
    refine RO.nil ?_
    refine Runs.ret ?_
    refine thenQ_ret ?_
    refine EndQ.tmp (.inr rfl) rfl rfl 0 (by exact Nat.le_refl _) (by exact Nat.zero_le _) trivial ⟨?_, rfl⟩
    refine bool_eq ?_; rw [same_eq, beq_eq_false_iff_ne.2 h1]; simp
  · try simp only [Z.a, Z.b, Z.c, Z.d, Z.e, Z.f, Z.g, Z.h, Z.i, Z.j, Z.k, Z.l, Z.m] at h1
    refine RO.opgv (v' := .ref 0 1) rfl (opv_field_ref rfl rfl) rfl ?_
    refine RO.opgv (v' := .d (.int _ _)) rfl (opv_load_ref rfl rfl rfl) rfl ?_
    refine RO.opgv (v' := .ref 1 1) rfl (opv_field_ref rfl rfl) rfl ?_
    refine RO.opgv (v' := .d (.int _ _)) rfl (opv_load_ref rfl rfl rfl) rfl ?_
    refine RO.opgv (v' := .d (.bool _)) rfl (opv_bin rfl rfl rfl) rfl ?_
    refine RO.opv (v' := .d (.bool _)) (opv_pick rfl rfl) rfl ?_
    refine RO.opc (opv_move rfl) (fun h2 => ?_) (fun h2 => ?_)
    · try simp only [Z.a, Z.b, Z.c, Z.d, Z.e, Z.f, Z.g, Z.h, Z.i, Z.j, Z.k, Z.l, Z.m] at h2
      refine RO.off rfl ?_
      refine RO.off rfl ?_
      refine RO.off rfl ?_
      refine RO.off rfl ?_
      refine RO.off rfl ?_
      refine RO.opv (v' := .d (.bool true)) (opv_pick rfl rfl) rfl ?_
      refine RO.opv (v' := .d (.bool true)) (opv_move rfl) rfl ?_
      refine RO.off rfl ?_
      refine RO.off rfl ?_
      refine RO.off rfl ?_
      refine RO.off rfl ?_
      refine RO.off rfl ?_
      refine RO.off rfl ?_
      refine RO.off rfl ?_
      refine RO.opv (v' := .d (.bool true)) (opv_pick rfl rfl) rfl ?_
      refine RO.nil ?_
      refine Runs.condT rfl ?_
      refine Runs.has [(2, .ref 0 0), (3, .ref 1 0), (4, .d (.bool false))] ⟨rfl, rfl, rfl, trivial⟩ ?_
      refine Runs.rseq ?_
      refine RO.opv (v' := .d (.bool false)) (opv_assign rfl) rfl ?_
      refine RO.nil ?_
      refine Runs.ret ?_
      refine thenQ_ret ?_
      refine EndQ.tmp (.inr rfl) rfl rfl 0 (by exact Nat.le_refl _) (by exact Nat.zero_le _) trivial ⟨?_, rfl⟩
      refine bool_eq ?_; rw [same_eq, beq_eq_false_iff_ne.2 h2]; simp
    · try simp only [Z.a, Z.b, Z.c, Z.d, Z.e, Z.f, Z.g, Z.h, Z.i, Z.j, Z.k, Z.l, Z.m] at h2
      refine RO.opgv (v' := .ref 0 2) rfl (opv_field_ref rfl rfl) rfl ?_
      refine RO.opgv (v' := .d (.str _)) rfl (opv_load_ref rfl rfl rfl) rfl ?_
      refine RO.opgv (v' := .ref 1 2) rfl (opv_field_ref rfl rfl) rfl ?_
      refine RO.opgv (v' := .d (.str _)) rfl (opv_load_ref rfl rfl rfl) rfl ?_
      refine RO.opgv (v' := .d (.bool _)) rfl (opv_bin rfl rfl rfl) rfl ?_
      refine RO.opv (v' := .d (.bool _)) (opv_pick rfl rfl) rfl ?_
      refine RO.opc (opv_move rfl) (fun h3 => ?_) (fun h3 => ?_)
      · try simp only [Z.a, Z.b, Z.c, Z.d, Z.e, Z.f, Z.g, Z.h, Z.i, Z.j, Z.k, Z.l, Z.m] at h3
        refine RO.off rfl ?_
        refine RO.off rfl ?_
        refine RO.off rfl ?_
        refine RO.off rfl ?_
        refine RO.off rfl ?_
        refine RO.off rfl ?_
        refine RO.off rfl ?_
        refine RO.opv (v' := .d (.bool true)) (opv_pick rfl rfl) rfl ?_
        refine RO.nil ?_
        refine Runs.condT rfl ?_
        refine Runs.has [(2, .ref 0 0), (3, .ref 1 0), (4, .d (.bool false))] ⟨rfl, rfl, rfl, trivial⟩ ?_
        refine Runs.rseq ?_
        refine RO.opv (v' := .d (.bool false)) (opv_assign rfl) rfl ?_
        refine RO.nil ?_
        refine Runs.ret ?_
        refine thenQ_ret ?_
        refine EndQ.tmp (.inr rfl) rfl rfl 0 (by exact Nat.le_refl _) (by exact Nat.zero_le _) trivial ⟨?_, rfl⟩
        refine bool_eq ?_; rw [same_eq, beq_eq_false_iff_ne.2 h3]; simp
      · try simp only [Z.a, Z.b, Z.c, Z.d, Z.e, Z.f, Z.g, Z.h, Z.i, Z.j, Z.k, Z.l, Z.m] at h3
        refine RO.opgv (v' := .ref 0 3) rfl (opv_field_ref rfl rfl) rfl ?_
        refine RO.opgv (v' := .d (.list (encs _))) rfl (opv_load_ref rfl rfl rfl) rfl ?_
        refine RO.opgv (v' := .d (.int _ _)) rfl (opv_len_terms rfl) rfl ?_
        refine RO.opgv (v' := .ref 1 3) rfl (opv_field_ref rfl rfl) rfl ?_
        refine RO.opgv (v' := .d (.list (encs _))) rfl (opv_load_ref rfl rfl rfl) rfl ?_
        refine RO.opgv (v' := .d (.int _ _)) rfl (opv_len_terms rfl) rfl ?_
        refine RO.opgv (v' := .d (.bool _)) rfl (opv_bin rfl rfl rfl) rfl ?_
        refine RO.opc (opv_pick rfl rfl) (fun h4 => ?_) (fun h4 => ?_)
        · try simp only [Z.a, Z.b, Z.c, Z.d, Z.e, Z.f, Z.g, Z.h, Z.i, Z.j, Z.k, Z.l, Z.m] at h4
          skip
          refine RO.nil ?_
          refine Runs.condT rfl ?_
          refine Runs.has [(2, .ref 0 0), (3, .ref 1 0), (4, .d (.bool false))] ⟨rfl, rfl, rfl, trivial⟩ ?_
          refine Runs.rseq ?_
          refine RO.opv (v' := .d (.bool false)) (opv_assign rfl) rfl ?_
          refine RO.nil ?_
          refine Runs.ret ?_
          refine thenQ_ret ?_
          refine EndQ.tmp (.inr rfl) rfl rfl 0 (by exact Nat.le_refl _) (by exact Nat.zero_le _) trivial ⟨?_, rfl⟩
          refine bool_eq ?_; rw [same_eq, sames_len (fun e => h4 (by rw [e]))]; simp
        · try simp only [Z.a, Z.b, Z.c, Z.d, Z.e, Z.f, Z.g, Z.h, Z.i, Z.j, Z.k, Z.l, Z.m] at h4
          have hlm : t.kids.length = u.kids.length := by omega
          refine RO.nil ?_
          refine Runs.condF rfl ?_
          refine Runs.skip ?_
          refine thenQ_normal ?_
          refine Runs.has [(2, .ref 0 0), (3, .ref 1 0), (4, .d (.bool false))] ⟨rfl, rfl, rfl, trivial⟩ ?_
          refine Runs.seq ?_
          refine Runs.rseq ?_
          refine RO.opv (v' := .d (.int _ _)) (opv_assign rfl) rfl ?_
          refine RO.nil ?_
          refine Runs.block ?_
          refine Runs.loopC (X := Nat) (fun i => i ≤ t.kids.length ∧ sames t.kids u.kids = sames (t.kids.drop i) (u.kids.drop i)) (fun i => t.kids.length - i) [(2, .ref 0 0), (3, .ref 1 0)] (fun i => [(5, .d (.int .i64 (i : Nat)))]) [_, _] (fun i => []) (0) ⟨rfl, rfl, trivial⟩ ⟨rfl, trivial⟩ rfl ⟨Nat.zero_le _, rfl⟩ fun i hi => ?_
          refine Runs.seq ?_
          refine Runs.rseq ?_
          refine RO.opv (v' := .d (.int _ _)) (opv_move rfl) rfl ?_
          refine RO.opv (v' := .ref 0 3) (opv_field_ref rfl rfl) rfl ?_
          refine RO.opv (v' := .d (.list (encs _))) (opv_load_ref rfl rfl rfl) rfl ?_
          refine RO.opv (v' := .d (.int _ _)) (opv_len_terms rfl) rfl ?_
          refine RO.opc (opv_bin rfl rfl rfl) (fun h5 => ?_) (fun h5 => ?_)
          · try simp only [Z.a, Z.b, Z.c, Z.d, Z.e, Z.f, Z.g, Z.h, Z.i, Z.j, Z.k, Z.l, Z.m] at h5
            have hk : i < t.kids.length := by omega
            refine RO.nil ?_
            refine Runs.condT rfl ?_
            refine Runs.skip ?_
            refine thenQ_normal ?_
            refine Runs.has [(2, .ref 0 0), (3, .ref 1 0), (5, .d (.int _ _))] ⟨rfl, rfl, rfl, trivial⟩ ?_
            refine Runs.seq ?_
            refine Runs.block ?_
            refine Runs.seq ?_
            refine Runs.drawn (by kernel_rfl) [] [false, false, false, false, false, false, false, false, false, false, false, false] [false, false, false, false, false, false, false, false, false, false, false, false] (by decide +kernel) ?_
            refine RD.opv (v' := .ref 0 3) (opv_field_ref rfl rfl) rfl ?_
            refine RD.opv (v' := .d (.list (encs _))) (opv_load_ref rfl rfl rfl) rfl ?_
            refine RD.opv (v' := .d (.int _ _)) (opv_move rfl) rfl ?_
            refine RD.opv (v' := .d (.ptr _)) (opv_index_terms rfl rfl (by omega)) rfl ?_
            refine RD.opv (v' := .d (enc _)) (opv_load_pterm rfl) rfl ?_
            refine RD.opv (v' := .ref 1 3) (opv_field_ref rfl rfl) rfl ?_
            refine RD.opv (v' := .d (.list (encs _))) (opv_load_ref rfl rfl rfl) rfl ?_
            refine RD.opv (v' := .d (.int _ _)) (opv_move rfl) rfl ?_
            refine RD.opv (v' := .d (.ptr _)) (opv_index_terms rfl rfl (by omega)) rfl ?_
            refine RD.opv (v' := .d (enc _)) (opv_load_pterm rfl) rfl ?_
            refine RD.opv (v' := .d (.bool _)) (opv_callF (ih t.kids[i] u.kids[i] (by have := sizes_mem (List.getElem_mem hk); omega) (by have := bulks_mem (List.getElem_mem hk); omega) (by have := bulks_mem (List.getElem_mem (l := u.kids) (n := i) (by omega)); omega)) rfl rfl rfl trivial) rfl ?_
            refine RD.opc (opv_not rfl rfl) (fun h6 => ?_) (fun h6 => ?_)
            · try simp only [Z.a, Z.b, Z.c, Z.d, Z.e, Z.f, Z.g, Z.h, Z.i, Z.j, Z.k, Z.l, Z.m] at h6
              refine RD.nil ?_
              refine thenQ_normal ?_
              refine Runs.condT rfl ?_
              refine Runs.has [(2, .ref 0 0), (3, .ref 1 0), (5, .d (.int _ _))] ⟨rfl, rfl, rfl, trivial⟩ ?_
              refine Runs.rseq ?_
              refine RO.opv (v' := .d (.bool false)) (opv_assign rfl) rfl ?_
              refine RO.nil ?_
              refine Runs.ret ?_
              refine blockQ_ret ?_
              refine thenQ_ret ?_
              refine thenQ_ret ?_
              refine blockQ_ret ?_
              refine thenQ_ret ?_
              refine EndQ.tmp (.inr rfl) rfl rfl 0 (by exact Nat.le_refl _) (by exact Nat.zero_le _) trivial ⟨?_, rfl⟩
              refine bool_eq ?_; rw [same_eq, hi.2, sames_drop hk (by omega), h6]; simp
            · try simp only [Z.a, Z.b, Z.c, Z.d, Z.e, Z.f, Z.g, Z.h, Z.i, Z.j, Z.k, Z.l, Z.m] at h6
              refine RD.nil ?_
              refine thenQ_normal ?_
              refine Runs.condF rfl ?_
              refine Runs.skip ?_
              refine blockQ_normal ?_
              refine thenQ_normal ?_
              refine Runs.has [(2, .ref 0 0), (3, .ref 1 0), (5, .d (.int _ _))] ⟨rfl, rfl, rfl, trivial⟩ ?_
              refine Runs.region ?_
              refine RO.opv (v' := .d (.int _ _)) (opv_move rfl) rfl ?_
              refine RO.opv (v' := .d (.int _ _)) (opv_bin rfl rfl rfl) rfl ?_
              refine RO.opv (v' := .d (.int _ _)) (opv_assign rfl) rfl ?_
              refine RO.nil ?_
              refine thenQ_normal ?_
              refine ⟨i + 1, 2, (by rw [hK]; exact Nat.le_of_ble_eq_true rfl), ⟨rfl, rfl, trivial⟩, ⟨?_, trivial⟩, rfl, ?_, ?_⟩
              · refine int_eq ?_; rw [wrap64 (by omega) (by omega)]; omega
              · refine ⟨by omega, ?_⟩
                rw [hi.2, sames_drop hk (by omega), h6, Bool.true_and]
              · omega
          · try simp only [Z.a, Z.b, Z.c, Z.d, Z.e, Z.f, Z.g, Z.h, Z.i, Z.j, Z.k, Z.l, Z.m] at h5
            have hk : i = t.kids.length := by omega
            refine RO.nil ?_
            refine Runs.condF rfl ?_
            refine Runs.exit ?_
            refine thenQ_exit ?_
            refine thenQ_exit ?_
            refine blockQ_here ?_
            refine thenQ_normal ?_
            refine Runs.has [] trivial ?_
            refine Runs.rseq ?_
            refine RO.opv (v' := .d (.bool true)) (opv_assign rfl) rfl ?_
            refine RO.nil ?_
            refine Runs.ret ?_
            refine EndQ.tmp (.inr rfl) rfl rfl 0 (by exact Nat.le_refl _) (by exact Nat.zero_le _) trivial ⟨?_, rfl⟩
            refine bool_eq ?_; rw [same_eq, h1, h2, h3, hi.2, hk, List.drop_length, hlm, List.drop_length]; simp [sames]
theorem rsame_fn (t u : Term) (hb : t.bulk ≤ 2 ^ 30) (hb' : u.bulk ≤ 2 ^ 30) : Fn Try.prog 45 [.d (enc t), .d (enc u)] [] (.d (.bool (same t u))) [] := rsame_aux t.size t u (Nat.le_refl _) hb hb'
theorem lists_fn (l m : List Term) (hl : bulks l ≤ 2 ^ 30) (hm : bulks m ≤ 2 ^ 30) : Fn Try.prog 21 [.d (.list (encs l)), .d (.list (encs m))] [] (.d (.bool (sames l m))) [] := by
  have hL := bulks_len l
  have hM := bulks_len m
  refine Does.run Try.func21 rfl Try.ntmps21 rfl fun K hK => ?_
  refine Runs.rseq ?_
  refine RO.opv (v' := .d (.bool false)) (opv_assign rfl) rfl ?_
  refine RO.nil ?_
  refine Runs.seq ?_
  refine Runs.rseq ?_
  refine RO.opv (v' := .d (.list (encs _))) (opv_move rfl) rfl ?_
  refine RO.opv (v' := .d (.int _ _)) (opv_len_terms rfl) rfl ?_
  refine RO.opv (v' := .d (.list (encs _))) (opv_move rfl) rfl ?_
  refine RO.opv (v' := .d (.int _ _)) (opv_len_terms rfl) rfl ?_
  refine RO.opc (opv_bin rfl rfl rfl) (fun h1 => ?_) (fun h1 => ?_)
  · try simp only [Z.a, Z.b, Z.c, Z.d, Z.e, Z.f, Z.g, Z.h, Z.i, Z.j, Z.k, Z.l, Z.m] at h1
    skip
    refine RO.nil ?_
    refine Runs.condT rfl ?_
    refine Runs.has [(0, .d (.list (encs _))), (1, .d (.list (encs _))), (4, .d (.bool false))] ⟨rfl, rfl, rfl, trivial⟩ ?_
    refine Runs.rseq ?_
    refine RO.opv (v' := .d (.bool false)) (opv_assign rfl) rfl ?_
    refine RO.nil ?_
    refine Runs.ret ?_
    refine thenQ_ret ?_
    refine EndQ.tmp (.inr rfl) rfl rfl 0 (by exact Nat.le_refl _) (by exact Nat.zero_le _) trivial ⟨?_, rfl⟩
    refine bool_eq ?_; exact (sames_len (fun e => h1 (by rw [e]))).symm
  · try simp only [Z.a, Z.b, Z.c, Z.d, Z.e, Z.f, Z.g, Z.h, Z.i, Z.j, Z.k, Z.l, Z.m] at h1
    have hlm : l.length = m.length := by omega
    refine RO.nil ?_
    refine Runs.condF rfl ?_
    refine Runs.skip ?_
    refine thenQ_normal ?_
    refine Runs.has [(0, .d (.list (encs _))), (1, .d (.list (encs _))), (4, .d (.bool false))] ⟨rfl, rfl, rfl, trivial⟩ ?_
    refine Runs.seq ?_
    refine Runs.rseq ?_
    refine RO.opv (v' := .d (.int _ _)) (opv_assign rfl) rfl ?_
    refine RO.nil ?_
    refine Runs.block ?_
    refine Runs.loopC (X := Nat) (fun i => i ≤ l.length ∧ sames l m = sames (l.drop i) (m.drop i)) (fun i => l.length - i) [(0, .d (.list (encs _))), (1, .d (.list (encs _)))] (fun i => [(5, .d (.int .i64 (i : Nat)))]) [] (fun i => []) (0) ⟨rfl, rfl, trivial⟩ ⟨rfl, trivial⟩ rfl ⟨Nat.zero_le _, rfl⟩ fun i hi => ?_
    refine Runs.seq ?_
    refine Runs.rseq ?_
    refine RO.opv (v' := .d (.int _ _)) (opv_move rfl) rfl ?_
    refine RO.opv (v' := .d (.list (encs _))) (opv_move rfl) rfl ?_
    refine RO.opv (v' := .d (.int _ _)) (opv_len_terms rfl) rfl ?_
    refine RO.opc (opv_bin rfl rfl rfl) (fun h2 => ?_) (fun h2 => ?_)
    · try simp only [Z.a, Z.b, Z.c, Z.d, Z.e, Z.f, Z.g, Z.h, Z.i, Z.j, Z.k, Z.l, Z.m] at h2
      have hk : i < l.length := by omega
      refine RO.nil ?_
      refine Runs.condT rfl ?_
      refine Runs.skip ?_
      refine thenQ_normal ?_
      refine Runs.has [(0, .d (.list (encs _))), (1, .d (.list (encs _))), (5, .d (.int _ _))] ⟨rfl, rfl, rfl, trivial⟩ ?_
      refine Runs.seq ?_
      refine Runs.block ?_
      refine Runs.seq ?_
      refine Runs.drawn (by kernel_rfl) [] [false, false, false, false, false, false, false, false, false, false] [false, false, false, false, false, false, false, false, false, false] (by decide +kernel) ?_
      refine RD.opv (v' := .d (.list (encs _))) (opv_move rfl) rfl ?_
      refine RD.opv (v' := .d (.int _ _)) (opv_move rfl) rfl ?_
      refine RD.opv (v' := .d (.ptr _)) (opv_index_terms rfl rfl (by omega)) rfl ?_
      refine RD.opv (v' := .d (enc _)) (opv_load_pterm rfl) rfl ?_
      refine RD.opv (v' := .d (.list (encs _))) (opv_move rfl) rfl ?_
      refine RD.opv (v' := .d (.int _ _)) (opv_move rfl) rfl ?_
      refine RD.opv (v' := .d (.ptr _)) (opv_index_terms rfl rfl (by omega)) rfl ?_
      refine RD.opv (v' := .d (enc _)) (opv_load_pterm rfl) rfl ?_
      refine RD.opv (v' := .d (.bool _)) (opv_callF (rsame_fn l[i] m[i] (by have := bulks_mem (List.getElem_mem hk); omega) (by have := bulks_mem (List.getElem_mem (l := m) (n := i) (by omega)); omega)) rfl rfl rfl trivial) rfl ?_
      refine RD.opc (opv_not rfl rfl) (fun h3 => ?_) (fun h3 => ?_)
      · try simp only [Z.a, Z.b, Z.c, Z.d, Z.e, Z.f, Z.g, Z.h, Z.i, Z.j, Z.k, Z.l, Z.m] at h3
        refine RD.nil ?_
        refine thenQ_normal ?_
        refine Runs.condT rfl ?_
        refine Runs.has [(0, .d (.list (encs _))), (1, .d (.list (encs _))), (5, .d (.int _ _))] ⟨rfl, rfl, rfl, trivial⟩ ?_
        refine Runs.rseq ?_
        refine RO.opv (v' := .d (.bool false)) (opv_assign rfl) rfl ?_
        refine RO.nil ?_
        refine Runs.ret ?_
        refine blockQ_ret ?_
        refine thenQ_ret ?_
        refine thenQ_ret ?_
        refine blockQ_ret ?_
        refine thenQ_ret ?_
        refine EndQ.tmp (.inr rfl) rfl rfl 0 (by exact Nat.le_refl _) (by exact Nat.zero_le _) trivial ⟨?_, rfl⟩
        refine bool_eq ?_; rw [hi.2, sames_drop hk (by omega), h3, Bool.false_and]
      · try simp only [Z.a, Z.b, Z.c, Z.d, Z.e, Z.f, Z.g, Z.h, Z.i, Z.j, Z.k, Z.l, Z.m] at h3
        refine RD.nil ?_
        refine thenQ_normal ?_
        refine Runs.condF rfl ?_
        refine Runs.skip ?_
        refine blockQ_normal ?_
        refine thenQ_normal ?_
        refine Runs.has [(0, .d (.list (encs _))), (1, .d (.list (encs _))), (5, .d (.int _ _))] ⟨rfl, rfl, rfl, trivial⟩ ?_
        refine Runs.region ?_
        refine RO.opv (v' := .d (.int _ _)) (opv_move rfl) rfl ?_
        refine RO.opv (v' := .d (.int _ _)) (opv_bin rfl rfl rfl) rfl ?_
        refine RO.opv (v' := .d (.int _ _)) (opv_assign rfl) rfl ?_
        refine RO.nil ?_
        refine thenQ_normal ?_
        refine ⟨i + 1, 0, (by rw [hK]; exact Nat.le_of_ble_eq_true rfl), ⟨rfl, rfl, trivial⟩, ⟨?_, trivial⟩, rfl, ?_, ?_⟩
        · refine int_eq ?_; rw [wrap64 (by omega) (by omega)]; omega
        · refine ⟨by omega, ?_⟩
          rw [hi.2, sames_drop hk (by omega), h3, Bool.true_and]
        · omega
    · try simp only [Z.a, Z.b, Z.c, Z.d, Z.e, Z.f, Z.g, Z.h, Z.i, Z.j, Z.k, Z.l, Z.m] at h2
      have hk : i = l.length := by omega
      refine RO.nil ?_
      refine Runs.condF rfl ?_
      refine Runs.exit ?_
      refine thenQ_exit ?_
      refine thenQ_exit ?_
      refine blockQ_here ?_
      refine thenQ_normal ?_
      refine Runs.has [] trivial ?_
      refine Runs.rseq ?_
      refine RO.opv (v' := .d (.bool true)) (opv_assign rfl) rfl ?_
      refine RO.nil ?_
      refine Runs.ret ?_
      refine EndQ.tmp (.inr rfl) rfl rfl 0 (by exact Nat.le_refl _) (by exact Nat.zero_le _) trivial ⟨?_, rfl⟩
      refine bool_eq ?_; rw [hi.2, hk, List.drop_length, hlm, List.drop_length]; rfl
end Go.Proofs.Ythpiggjclhnkcaa.AM
