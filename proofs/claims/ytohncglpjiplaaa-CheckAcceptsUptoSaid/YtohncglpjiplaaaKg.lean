import Derived.Test.YtohncglpjiplaaaDg
import Derived.Test.YtohncglpjiplaaaQ1
namespace Go.Proofs.Ytohncglpjiplaaa.AM
open Go
set_option linter.unusedVariables false
set_option linter.unusedSimpArgs false
set_option maxRecDepth 100000
theorem clevel_fn (l : Lt) (hl : l.Ok) (n : Int) : Fn Try.prog 37 [.d (encL l), .d (.int .i64 n)] [] (.d (.int .i64 (l.lev n))) [] := by
  refine Does.run Try.func37 rfl Try.ntmps37 rfl fun K hK => ?_
  refine Runs.rseq ?_
  refine RO.opv (v' := .d (.int _ _)) (opv_assign rfl) rfl ?_
  refine RO.nil ?_
  refine Runs.seq ?_
  refine Runs.rseq ?_
  refine RO.opv (v' := .d (.int _ _)) (opv_move rfl) rfl ?_
  refine RO.opv (v' := .d (.bool _)) (opv_bin rfl rfl rfl) rfl ?_
  refine RO.opc (opv_move rfl) (fun h1 => ?_) (fun h1 => ?_)
  · try simp only [Z.a, Z.b, Z.c, Z.d, Z.e, Z.f, Z.g, Z.h, Z.i, Z.j, Z.k, Z.l, Z.m] at h1
    have hx := h1
    refine RO.off rfl ?_
    refine RO.off rfl ?_
    refine RO.off rfl ?_
    refine RO.off rfl ?_
    refine RO.opv (v' := .d (.bool true)) (opv_pick rfl rfl) rfl ?_
    refine RO.nil ?_
    refine Runs.condT rfl ?_
    refine Runs.has [(0, .d (encL _)), (1, .d (.int _ _)), (4, .d (.int _ _))] ⟨rfl, rfl, rfl, trivial⟩ ?_
    refine Runs.rseq ?_
    refine RO.opv (v' := .d (encL _)) (opv_move rfl) rfl ?_
    refine RO.opv (v' := .d (.int _ _)) (opv_callF (ltop_fn l hl) rfl rfl rfl trivial) rfl ?_
    refine RO.opv (v' := .d (.int _ _)) (opv_assign rfl) rfl ?_
    refine RO.nil ?_
    refine Runs.ret ?_
    refine thenQ_ret ?_
    refine EndQ.tmp (.inr rfl) rfl rfl 0 (by exact Nat.le_refl _) (by exact Nat.zero_le _) trivial ⟨?_, rfl⟩
    refine int_eq ?_; exact (if_pos (.inl hx)).symm
  · try simp only [Z.a, Z.b, Z.c, Z.d, Z.e, Z.f, Z.g, Z.h, Z.i, Z.j, Z.k, Z.l, Z.m] at h1
    have hx := h1
    refine RO.opgv (v' := .d (.int _ _)) rfl (opv_move rfl) rfl ?_
    refine RO.opgv (v' := .d (encL _)) rfl (opv_move rfl) rfl ?_
    refine RO.opgv (v' := .d (.int _ _)) rfl (opv_callF (llen_fn l) rfl rfl rfl trivial) rfl ?_
    refine RO.opgv (v' := .d (.bool _)) rfl (opv_bin rfl rfl rfl) rfl ?_
    refine RO.opc (opv_pick rfl rfl) (fun h2 => ?_) (fun h2 => ?_)
    · try simp only [Z.a, Z.b, Z.c, Z.d, Z.e, Z.f, Z.g, Z.h, Z.i, Z.j, Z.k, Z.l, Z.m] at h2
      have hy := h2
      refine RO.nil ?_
      refine Runs.condT rfl ?_
      refine Runs.has [(0, .d (encL _)), (1, .d (.int _ _)), (4, .d (.int _ _))] ⟨rfl, rfl, rfl, trivial⟩ ?_
      refine Runs.rseq ?_
      refine RO.opv (v' := .d (encL _)) (opv_move rfl) rfl ?_
      refine RO.opv (v' := .d (.int _ _)) (opv_callF (ltop_fn l hl) rfl rfl rfl trivial) rfl ?_
      refine RO.opv (v' := .d (.int _ _)) (opv_assign rfl) rfl ?_
      refine RO.nil ?_
      refine Runs.ret ?_
      refine thenQ_ret ?_
      refine EndQ.tmp (.inr rfl) rfl rfl 0 (by exact Nat.le_refl _) (by exact Nat.zero_le _) trivial ⟨?_, rfl⟩
      refine int_eq ?_; exact (if_pos (.inr hy)).symm
    · try simp only [Z.a, Z.b, Z.c, Z.d, Z.e, Z.f, Z.g, Z.h, Z.i, Z.j, Z.k, Z.l, Z.m] at h2
      have hy := h2
      refine RO.nil ?_
      refine Runs.condF rfl ?_
      refine Runs.skip ?_
      refine thenQ_normal ?_
      refine Runs.has [(1, .d (.int _ _)), (4, .d (.int _ _))] ⟨rfl, rfl, trivial⟩ ?_
      refine Runs.rseq ?_
      refine RO.opv (v' := .d (.int _ _)) (opv_move rfl) rfl ?_
      refine RO.opv (v' := .d (.int _ _)) (opv_assign rfl) rfl ?_
      refine RO.nil ?_
      refine Runs.ret ?_
      refine EndQ.tmp (.inr rfl) rfl rfl 0 (by exact Nat.le_refl _) (by exact Nat.zero_le _) trivial ⟨?_, rfl⟩
      refine int_eq ?_; unfold Lt.lev; rw [if_neg (by omega)]
theorem cis_fn (t : Term) (s : ByteArray) (n : Int) : Fn Try.prog 65 [.d (enc t), .d (.str s), .d (.int .i64 n)] [] (.d (.bool (t.isN s n))) [] := by
  refine Does.run Try.func65 rfl Try.ntmps65 rfl fun K hK => ?_
  refine Runs.rseq ?_
  refine RO.opn (v' := .ref 0 0) (O' := [_]) (opv_box_term rfl) rfl rfl ?_
  refine RO.opv (v' := .d (.bool false)) (opv_assign rfl) rfl ?_
  refine RO.nil ?_
  refine Runs.has [(1, .d (.str _)), (2, .d (.int _ _)), (3, .ref 0 0), (6, .d (.bool false))] ⟨rfl, rfl, rfl, rfl, trivial⟩ ?_
  refine Runs.rseq ?_
  refine RO.opv (v' := .ref 0 0) (opv_field_ref rfl rfl) rfl ?_
  refine RO.opv (v' := .d (.int _ _)) (opv_load_ref rfl rfl rfl) rfl ?_
  refine RO.opv (v' := .d (.bool _)) (opv_bin rfl rfl rfl) rfl ?_
  refine RO.opc (opv_move rfl) (fun h1 => ?_) (fun h1 => ?_)
  · skip
    have e1 : decide (t.kind = 3) = (t.kind == 3) := rfl
    rw [h1] at e1
    refine RO.opgv (v' := .ref 0 2) rfl (opv_field_ref rfl rfl) rfl ?_
    refine RO.opgv (v' := .d (.str _)) rfl (opv_load_ref rfl rfl rfl) rfl ?_
    refine RO.opgv (v' := .d (.str _)) rfl (opv_move rfl) rfl ?_
    refine RO.opgv (v' := .d (.bool _)) rfl (opv_bin rfl rfl rfl) rfl ?_
    refine RO.opv (v' := .d (.bool _)) (opv_pick rfl rfl) rfl ?_
    refine RO.opc (opv_move rfl) (fun h2 => ?_) (fun h2 => ?_)
    · skip
      have e2 : (t.name.toList == s.toList) = _ := h2
      refine RO.opgv (v' := .ref 0 3) rfl (opv_field_ref rfl rfl) rfl ?_
      refine RO.opgv (v' := .d (.list (encs _))) rfl (opv_load_ref rfl rfl rfl) rfl ?_
      refine RO.opgv (v' := .d (.int _ _)) rfl (opv_len_terms rfl) rfl ?_
      refine RO.opgv (v' := .d (.int _ _)) rfl (opv_move rfl) rfl ?_
      refine RO.opgv (v' := .d (.bool _)) rfl (opv_bin rfl rfl rfl) rfl ?_
      refine RO.opv (v' := .d (.bool _)) (opv_pick rfl rfl) rfl ?_
      refine RO.opv (v' := .d (.bool _)) (opv_assign rfl) rfl ?_
      refine RO.nil ?_
      refine Runs.ret ?_
      refine EndQ.tmp (.inr rfl) rfl rfl 0 (by exact Nat.le_refl _) (by exact Nat.zero_le _) trivial ⟨?_, rfl⟩
      refine bool_eq ?_
      first
        | (simp only [Term.isN, *, Bool.true_and, Bool.false_and]; done)
        | (simp only [Term.isN, *, Bool.true_and, Bool.false_and]; first | done | rfl | (rw [Bool.eq_iff_iff]; simp; done) | (rw [Bool.eq_iff_iff]; simp; omega))
    · skip
      have e2 : (t.name.toList == s.toList) = _ := h2
      refine RO.off rfl ?_
      refine RO.off rfl ?_
      refine RO.off rfl ?_
      refine RO.off rfl ?_
      refine RO.off rfl ?_
      refine RO.opv (v' := .d (.bool false)) (opv_pick rfl rfl) rfl ?_
      refine RO.opv (v' := .d (.bool false)) (opv_assign rfl) rfl ?_
      refine RO.nil ?_
      refine Runs.ret ?_
      refine EndQ.tmp (.inr rfl) rfl rfl 0 (by exact Nat.le_refl _) (by exact Nat.zero_le _) trivial ⟨?_, rfl⟩
      refine bool_eq ?_
      first
        | (simp only [Term.isN, *, Bool.true_and, Bool.false_and]; done)
        | (simp only [Term.isN, *, Bool.true_and, Bool.false_and]; first | done | rfl | (rw [Bool.eq_iff_iff]; simp; done) | (rw [Bool.eq_iff_iff]; simp; omega))
  · skip
    have e1 : decide (t.kind = 3) = (t.kind == 3) := rfl
    rw [h1] at e1
    refine RO.off rfl ?_
    refine RO.off rfl ?_
    refine RO.off rfl ?_
    refine RO.off rfl ?_
    refine RO.opv (v' := .d (.bool false)) (opv_pick rfl rfl) rfl ?_
    refine RO.opv (v' := .d (.bool false)) (opv_move rfl) rfl ?_
    refine RO.off rfl ?_
    refine RO.off rfl ?_
    refine RO.off rfl ?_
    refine RO.off rfl ?_
    refine RO.off rfl ?_
    refine RO.opv (v' := .d (.bool false)) (opv_pick rfl rfl) rfl ?_
    refine RO.opv (v' := .d (.bool false)) (opv_assign rfl) rfl ?_
    refine RO.nil ?_
    refine Runs.ret ?_
    refine EndQ.tmp (.inr rfl) rfl rfl 0 (by exact Nat.le_refl _) (by exact Nat.zero_le _) trivial ⟨?_, rfl⟩
    refine bool_eq ?_
    first
      | (simp only [Term.isN, *, Bool.true_and, Bool.false_and]; done)
      | (simp only [Term.isN, *, Bool.true_and, Bool.false_and]; first | done | rfl | (rw [Bool.eq_iff_iff]; simp; done) | (rw [Bool.eq_iff_iff]; simp; omega))
theorem open_aux  : ∀ (m : Nat) (t : Term), t.size ≤ m → t.bulk ≤ 2 ^ 30 → Fn Try.prog 66 [.d (enc t)] [] (.d (.bool t.opens)) [] := by
  intro m
  induction m with
  | zero => intro t h; have := t.size_kids; omega
  | succ m ih =>
  intro t hm hb
  have hS := t.size_kids
  have hU := t.bulk_kids
  have hL := bulks_len t.kids
  refine Does.run Try.func66 rfl Try.ntmps66 rfl fun K hK => ?_
  refine Runs.rseq ?_
  refine RO.opn (v' := .ref 0 0) (O' := [_]) (opv_box_term rfl) rfl rfl ?_
  refine RO.opv (v' := .d (.bool false)) (opv_assign rfl) rfl ?_
  refine RO.nil ?_
  refine Runs.has [(1, .ref 0 0), (2, .d (.bool false))] ⟨rfl, rfl, trivial⟩ ?_
  refine Runs.seq ?_
  refine Runs.rseq ?_
  refine RO.opv (v' := .d (enc _)) (opv_load_term rfl rfl rfl) rfl ?_
  refine RO.opv (v' := .d (.bool _)) (opv_callF (cis_fn _ _ _) rfl rfl rfl trivial) rfl ?_
  refine RO.opv (v' := .d (.bool _)) (opv_not rfl rfl) rfl ?_
  refine RO.opc (opv_move rfl) (fun h1 => ?_) (fun h1 => ?_)
  · skip
    have c1 : t.isN bComma 2 = false := Bool.not_eq_true' _ ▸ h1
    refine RO.opgv (v' := .d (enc _)) rfl (opv_load_term rfl rfl rfl) rfl ?_
    refine RO.opgv (v' := .d (.bool _)) rfl (opv_callF (cis_fn _ _ _) rfl rfl rfl trivial) rfl ?_
    refine RO.opgv (v' := .d (.bool _)) rfl (opv_not rfl rfl) rfl ?_
    refine RO.opv (v' := .d (.bool _)) (opv_pick rfl rfl) rfl ?_
    refine RO.opc (opv_move rfl) (fun h2 => ?_) (fun h2 => ?_)
    · skip
      have c2 : t.isN bSemi 2 = false := Bool.not_eq_true' _ ▸ h2
      refine RO.opgv (v' := .d (enc _)) rfl (opv_load_term rfl rfl rfl) rfl ?_
      refine RO.opgv (v' := .d (.bool _)) rfl (opv_callF (cis_fn _ _ _) rfl rfl rfl trivial) rfl ?_
      refine RO.opgv (v' := .d (.bool _)) rfl (opv_not rfl rfl) rfl ?_
      refine RO.opv (v' := .d (.bool _)) (opv_pick rfl rfl) rfl ?_
      refine RO.opc (opv_move rfl) (fun h3 => ?_) (fun h3 => ?_)
      · skip
        have c3 : t.isN bArrow 2 = false := Bool.not_eq_true' _ ▸ h3
        refine RO.opgv (v' := .d (enc _)) rfl (opv_load_term rfl rfl rfl) rfl ?_
        refine RO.opgv (v' := .d (.bool _)) rfl (opv_callF (cis_fn _ _ _) rfl rfl rfl trivial) rfl ?_
        refine RO.opgv (v' := .d (.bool _)) rfl (opv_not rfl rfl) rfl ?_
        refine RO.opc (opv_pick rfl rfl) (fun h4 => ?_) (fun h4 => ?_)
        · skip
          have c4 : t.isN bNot 1 = false := Bool.not_eq_true' _ ▸ h4
          refine RO.nil ?_
          refine Runs.condT rfl ?_
          refine Runs.has [(1, .ref 0 0), (2, .d (.bool false))] ⟨rfl, rfl, trivial⟩ ?_
          refine Runs.rseq ?_
          refine RO.opv (v' := .ref 0 0) (opv_field_ref rfl rfl) rfl ?_
          refine RO.opv (v' := .d (.int _ _)) (opv_load_ref rfl rfl rfl) rfl ?_
          refine RO.opv (v' := .d (.bool _)) (opv_bin rfl rfl rfl) rfl ?_
          refine RO.opv (v' := .d (.bool _)) (opv_assign rfl) rfl ?_
          refine RO.nil ?_
          refine Runs.ret ?_
          refine thenQ_ret ?_
          refine EndQ.tmp (.inr rfl) rfl rfl 0 (by exact Nat.le_refl _) (by exact Nat.zero_le _) trivial ⟨?_, rfl⟩
          first
            | (refine bool_eq ?_; rw [opens_eq, show t.ctl = false from by unfold Term.ctl; rw [c1, c2, c3, c4]; rfl]; rfl)
            | (refine bool_eq ?_; rw [opens_eq, hctl]; exact (openss_yes hk ho).symm)
            | (refine bool_eq ?_; rw [opens_eq, hctl]; exact (openss_no fun j hj => hi.2 j hj (by omega)).symm)
        · skip
          have c4 : t.isN bNot 1 = true := Bool.not_eq_false' _ ▸ h4
          refine RO.nil ?_
          refine Runs.condF rfl ?_
          refine Runs.skip ?_
          refine thenQ_normal ?_
          refine Runs.has [(1, .ref 0 0), (2, .d (.bool false))] ⟨rfl, rfl, trivial⟩ ?_
          refine Runs.seq ?_
          refine Runs.rseq ?_
          refine RO.opv (v' := .ref 0 3) (opv_field_ref rfl rfl) rfl ?_
          refine RO.opv (v' := .d (.list (encs _))) (opv_load_ref rfl rfl rfl) rfl ?_
          refine RO.opv (v' := .d (.int _ _)) (opv_len_terms rfl) rfl ?_
          refine RO.opv (v' := .d (.int _ _)) (opv_move rfl) rfl ?_
          refine RO.nil ?_
          refine Runs.block ?_
          have hctl : t.ctl = true := by unfold Term.ctl; first | (rw [c1]; rfl) | (rw [c1, c2]; rfl) | (rw [c1, c2, c3]; rfl) | (rw [c1, c2, c3, c4]; rfl)
          refine Runs.loopC (X := Nat) (fun i => i ≤ t.kids.length ∧ ∀ (j : Nat) (hj : j < t.kids.length), j < i → t.kids[j].opens = false) (fun i => t.kids.length - i) [(27, .d (.list (encs _))), (28, .d (.int _ _))] (fun i => [(29, .d (.int .i64 (i : Nat)))]) [_] (fun i => []) (0) ⟨rfl, rfl, trivial⟩ ⟨rfl, trivial⟩ rfl ⟨Nat.zero_le _, fun j _ h => absurd h (Nat.not_lt_zero _)⟩ fun i hi => ?_
          refine Runs.rseq ?_
          refine RO.opc (opv_bin rfl rfl rfl) (fun h5 => ?_) (fun h5 => ?_)
          · skip
            have hk : i < t.kids.length := by simpa using h5
            refine RO.nil ?_
            refine Runs.seq ?_
            refine Runs.condT rfl ?_
            refine Runs.skip ?_
            refine thenQ_normal ?_
            refine Runs.has [(27, .d (.list (encs _))), (28, .d (.int _ _)), (29, .d (.int _ _))] ⟨rfl, rfl, rfl, trivial⟩ ?_
            refine Runs.seq ?_
            refine Runs.block ?_
            refine Runs.rseq ?_
            refine RO.opv (v' := .d (.ptr _)) (opv_index_terms rfl rfl hk) rfl ?_
            refine RO.opv (v' := .d (enc _)) (opv_load_pterm rfl) rfl ?_
            refine RO.opn (v' := .ref 1 0) (O' := [_, _]) (opv_alloc) rfl rfl ?_
            refine RO.op0n (O' := [_, _]) (opv_store_term rfl rfl rfl (Nat.le_of_ble_eq_true rfl)) rfl ?_
            refine RO.nil ?_
            refine Runs.has [(4, .ref 1 0), (27, .d (.list (encs _))), (28, .d (.int _ _)), (29, .d (.int _ _))] ⟨rfl, rfl, rfl, rfl, trivial⟩ ?_
            refine Runs.rseq ?_
            refine RO.opv (v' := .d (enc _)) (opv_load_term rfl rfl rfl) rfl ?_
            refine RO.opc (opv_callF (ih t.kids[i] (by have := sizes_mem (List.getElem_mem (l := t.kids) (n := i) hk); omega) (by have := bulks_mem (List.getElem_mem (l := t.kids) (n := i) hk); omega)) rfl rfl rfl trivial) (fun h6 => ?_) (fun h6 => ?_)
            · skip
              have ho := h6
              refine RO.nil ?_
              refine Runs.condT rfl ?_
              refine Runs.has [(27, .d (.list (encs _))), (28, .d (.int _ _)), (29, .d (.int _ _))] ⟨rfl, rfl, rfl, trivial⟩ ?_
              refine Runs.rseq ?_
              refine RO.opv (v' := .d (.bool true)) (opv_assign rfl) rfl ?_
              refine RO.nil ?_
              refine Runs.ret ?_
              refine blockQ_ret ?_
              refine thenQ_ret ?_
              refine thenQ_ret ?_
              refine blockQ_ret ?_
              refine thenQ_ret ?_
              refine EndQ.tmp (.inr rfl) rfl rfl 0 (by exact Nat.le_refl _) (by exact Nat.zero_le _) trivial ⟨?_, rfl⟩
              first
                | (refine bool_eq ?_; rw [opens_eq, show t.ctl = false from by unfold Term.ctl; rw [c1, c2, c3, c4]; rfl]; rfl)
                | (refine bool_eq ?_; rw [opens_eq, hctl]; exact (openss_yes hk ho).symm)
                | (refine bool_eq ?_; rw [opens_eq, hctl]; exact (openss_no fun j hj => hi.2 j hj (by omega)).symm)
            · skip
              have ho := h6
              refine RO.nil ?_
              refine Runs.condF rfl ?_
              refine Runs.skip ?_
              refine blockQ_normal ?_
              refine thenQ_normal ?_
              refine Runs.has [(27, .d (.list (encs _))), (28, .d (.int _ _)), (29, .d (.int _ _))] ⟨rfl, rfl, rfl, trivial⟩ ?_
              refine Runs.region ?_
              refine RO.opv (v' := .d (.int _ _)) (opv_bin rfl rfl rfl) rfl ?_
              refine RO.opv (v' := .d (.int _ _)) (opv_move rfl) rfl ?_
              refine RO.nil ?_
              refine thenQ_normal ?_
              refine ⟨i + 1, 1, (by rw [hK]; exact Nat.le_of_ble_eq_true rfl), ⟨rfl, rfl, trivial⟩, ⟨?_, trivial⟩, rfl, ?_, ?_⟩
              · refine int_eq ?_; rw [wrap64 (by omega) (by omega)]; omega
              · refine ⟨by omega, fun j hj h => ?_⟩
                rcases Nat.lt_succ_iff_lt_or_eq.1 h with h' | h'
                · exact hi.2 j hj h'
                · subst h'; exact ho
              · omega
          · skip
            have hk : i = t.kids.length := by simp at h5; omega
            refine RO.nil ?_
            refine Runs.seq ?_
            refine Runs.condF rfl ?_
            refine Runs.exit ?_
            refine thenQ_exit ?_
            refine thenQ_exit ?_
            refine blockQ_here ?_
            refine thenQ_normal ?_
            refine Runs.has [] trivial ?_
            refine Runs.rseq ?_
            refine RO.opv (v' := .d (.bool false)) (opv_assign rfl) rfl ?_
            refine RO.nil ?_
            refine Runs.ret ?_
            refine EndQ.tmp (.inr rfl) rfl rfl 0 (by exact Nat.le_refl _) (by exact Nat.zero_le _) trivial ⟨?_, rfl⟩
            first
              | (refine bool_eq ?_; rw [opens_eq, show t.ctl = false from by unfold Term.ctl; rw [c1, c2, c3, c4]; rfl]; rfl)
              | (refine bool_eq ?_; rw [opens_eq, hctl]; exact (openss_yes hk ho).symm)
              | (refine bool_eq ?_; rw [opens_eq, hctl]; exact (openss_no fun j hj => hi.2 j hj (by omega)).symm)
      · skip
        have c3 : t.isN bArrow 2 = true := Bool.not_eq_false' _ ▸ h3
        refine RO.off rfl ?_
        refine RO.off rfl ?_
        refine RO.off rfl ?_
        refine RO.opv (v' := .d (.bool false)) (opv_pick rfl rfl) rfl ?_
        refine RO.nil ?_
        refine Runs.condF rfl ?_
        refine Runs.skip ?_
        refine thenQ_normal ?_
        refine Runs.has [(1, .ref 0 0), (2, .d (.bool false))] ⟨rfl, rfl, trivial⟩ ?_
        refine Runs.seq ?_
        refine Runs.rseq ?_
        refine RO.opv (v' := .ref 0 3) (opv_field_ref rfl rfl) rfl ?_
        refine RO.opv (v' := .d (.list (encs _))) (opv_load_ref rfl rfl rfl) rfl ?_
        refine RO.opv (v' := .d (.int _ _)) (opv_len_terms rfl) rfl ?_
        refine RO.opv (v' := .d (.int _ _)) (opv_move rfl) rfl ?_
        refine RO.nil ?_
        refine Runs.block ?_
        have hctl : t.ctl = true := by unfold Term.ctl; first | (rw [c1]; rfl) | (rw [c1, c2]; rfl) | (rw [c1, c2, c3]; rfl) | (rw [c1, c2, c3, c4]; rfl)
        refine Runs.loopC (X := Nat) (fun i => i ≤ t.kids.length ∧ ∀ (j : Nat) (hj : j < t.kids.length), j < i → t.kids[j].opens = false) (fun i => t.kids.length - i) [(27, .d (.list (encs _))), (28, .d (.int _ _))] (fun i => [(29, .d (.int .i64 (i : Nat)))]) [_] (fun i => []) (0) ⟨rfl, rfl, trivial⟩ ⟨rfl, trivial⟩ rfl ⟨Nat.zero_le _, fun j _ h => absurd h (Nat.not_lt_zero _)⟩ fun i hi => ?_
        refine Runs.rseq ?_
        refine RO.opc (opv_bin rfl rfl rfl) (fun h7 => ?_) (fun h7 => ?_)
        · skip
          have hk : i < t.kids.length := by simpa using h7
          refine RO.nil ?_
          refine Runs.seq ?_
          refine Runs.condT rfl ?_
          refine Runs.skip ?_
          refine thenQ_normal ?_
          refine Runs.has [(27, .d (.list (encs _))), (28, .d (.int _ _)), (29, .d (.int _ _))] ⟨rfl, rfl, rfl, trivial⟩ ?_
          refine Runs.seq ?_
          refine Runs.block ?_
          refine Runs.rseq ?_
          refine RO.opv (v' := .d (.ptr _)) (opv_index_terms rfl rfl hk) rfl ?_
          refine RO.opv (v' := .d (enc _)) (opv_load_pterm rfl) rfl ?_
          refine RO.opn (v' := .ref 1 0) (O' := [_, _]) (opv_alloc) rfl rfl ?_
          refine RO.op0n (O' := [_, _]) (opv_store_term rfl rfl rfl (Nat.le_of_ble_eq_true rfl)) rfl ?_
          refine RO.nil ?_
          refine Runs.has [(4, .ref 1 0), (27, .d (.list (encs _))), (28, .d (.int _ _)), (29, .d (.int _ _))] ⟨rfl, rfl, rfl, rfl, trivial⟩ ?_
          refine Runs.rseq ?_
          refine RO.opv (v' := .d (enc _)) (opv_load_term rfl rfl rfl) rfl ?_
          refine RO.opc (opv_callF (ih t.kids[i] (by have := sizes_mem (List.getElem_mem (l := t.kids) (n := i) hk); omega) (by have := bulks_mem (List.getElem_mem (l := t.kids) (n := i) hk); omega)) rfl rfl rfl trivial) (fun h8 => ?_) (fun h8 => ?_)
          · skip
            have ho := h8
            refine RO.nil ?_
            refine Runs.condT rfl ?_
            refine Runs.has [(27, .d (.list (encs _))), (28, .d (.int _ _)), (29, .d (.int _ _))] ⟨rfl, rfl, rfl, trivial⟩ ?_
            refine Runs.rseq ?_
            refine RO.opv (v' := .d (.bool true)) (opv_assign rfl) rfl ?_
            refine RO.nil ?_
            refine Runs.ret ?_
            refine blockQ_ret ?_
            refine thenQ_ret ?_
            refine thenQ_ret ?_
            refine blockQ_ret ?_
            refine thenQ_ret ?_
            refine EndQ.tmp (.inr rfl) rfl rfl 0 (by exact Nat.le_refl _) (by exact Nat.zero_le _) trivial ⟨?_, rfl⟩
            first
              | (refine bool_eq ?_; rw [opens_eq, show t.ctl = false from by unfold Term.ctl; rw [c1, c2, c3, c4]; rfl]; rfl)
              | (refine bool_eq ?_; rw [opens_eq, hctl]; exact (openss_yes hk ho).symm)
              | (refine bool_eq ?_; rw [opens_eq, hctl]; exact (openss_no fun j hj => hi.2 j hj (by omega)).symm)
          · skip
            have ho := h8
            refine RO.nil ?_
            refine Runs.condF rfl ?_
            refine Runs.skip ?_
            refine blockQ_normal ?_
            refine thenQ_normal ?_
            refine Runs.has [(27, .d (.list (encs _))), (28, .d (.int _ _)), (29, .d (.int _ _))] ⟨rfl, rfl, rfl, trivial⟩ ?_
            refine Runs.region ?_
            refine RO.opv (v' := .d (.int _ _)) (opv_bin rfl rfl rfl) rfl ?_
            refine RO.opv (v' := .d (.int _ _)) (opv_move rfl) rfl ?_
            refine RO.nil ?_
            refine thenQ_normal ?_
            refine ⟨i + 1, 1, (by rw [hK]; exact Nat.le_of_ble_eq_true rfl), ⟨rfl, rfl, trivial⟩, ⟨?_, trivial⟩, rfl, ?_, ?_⟩
            · refine int_eq ?_; rw [wrap64 (by omega) (by omega)]; omega
            · refine ⟨by omega, fun j hj h => ?_⟩
              rcases Nat.lt_succ_iff_lt_or_eq.1 h with h' | h'
              · exact hi.2 j hj h'
              · subst h'; exact ho
            · omega
        · skip
          have hk : i = t.kids.length := by simp at h7; omega
          refine RO.nil ?_
          refine Runs.seq ?_
          refine Runs.condF rfl ?_
          refine Runs.exit ?_
          refine thenQ_exit ?_
          refine thenQ_exit ?_
          refine blockQ_here ?_
          refine thenQ_normal ?_
          refine Runs.has [] trivial ?_
          refine Runs.rseq ?_
          refine RO.opv (v' := .d (.bool false)) (opv_assign rfl) rfl ?_
          refine RO.nil ?_
          refine Runs.ret ?_
          refine EndQ.tmp (.inr rfl) rfl rfl 0 (by exact Nat.le_refl _) (by exact Nat.zero_le _) trivial ⟨?_, rfl⟩
          first
            | (refine bool_eq ?_; rw [opens_eq, show t.ctl = false from by unfold Term.ctl; rw [c1, c2, c3, c4]; rfl]; rfl)
            | (refine bool_eq ?_; rw [opens_eq, hctl]; exact (openss_yes hk ho).symm)
            | (refine bool_eq ?_; rw [opens_eq, hctl]; exact (openss_no fun j hj => hi.2 j hj (by omega)).symm)
    · skip
      have c2 : t.isN bSemi 2 = true := Bool.not_eq_false' _ ▸ h2
      refine RO.off rfl ?_
      refine RO.off rfl ?_
      refine RO.off rfl ?_
      refine RO.opv (v' := .d (.bool false)) (opv_pick rfl rfl) rfl ?_
      refine RO.opv (v' := .d (.bool false)) (opv_move rfl) rfl ?_
      refine RO.off rfl ?_
      refine RO.off rfl ?_
      refine RO.off rfl ?_
      refine RO.opv (v' := .d (.bool false)) (opv_pick rfl rfl) rfl ?_
      refine RO.nil ?_
      refine Runs.condF rfl ?_
      refine Runs.skip ?_
      refine thenQ_normal ?_
      refine Runs.has [(1, .ref 0 0), (2, .d (.bool false))] ⟨rfl, rfl, trivial⟩ ?_
      refine Runs.seq ?_
      refine Runs.rseq ?_
      refine RO.opv (v' := .ref 0 3) (opv_field_ref rfl rfl) rfl ?_
      refine RO.opv (v' := .d (.list (encs _))) (opv_load_ref rfl rfl rfl) rfl ?_
      refine RO.opv (v' := .d (.int _ _)) (opv_len_terms rfl) rfl ?_
      refine RO.opv (v' := .d (.int _ _)) (opv_move rfl) rfl ?_
      refine RO.nil ?_
      refine Runs.block ?_
      have hctl : t.ctl = true := by unfold Term.ctl; first | (rw [c1]; rfl) | (rw [c1, c2]; rfl) | (rw [c1, c2, c3]; rfl) | (rw [c1, c2, c3, c4]; rfl)
      refine Runs.loopC (X := Nat) (fun i => i ≤ t.kids.length ∧ ∀ (j : Nat) (hj : j < t.kids.length), j < i → t.kids[j].opens = false) (fun i => t.kids.length - i) [(27, .d (.list (encs _))), (28, .d (.int _ _))] (fun i => [(29, .d (.int .i64 (i : Nat)))]) [_] (fun i => []) (0) ⟨rfl, rfl, trivial⟩ ⟨rfl, trivial⟩ rfl ⟨Nat.zero_le _, fun j _ h => absurd h (Nat.not_lt_zero _)⟩ fun i hi => ?_
      refine Runs.rseq ?_
      refine RO.opc (opv_bin rfl rfl rfl) (fun h9 => ?_) (fun h9 => ?_)
      · skip
        have hk : i < t.kids.length := by simpa using h9
        refine RO.nil ?_
        refine Runs.seq ?_
        refine Runs.condT rfl ?_
        refine Runs.skip ?_
        refine thenQ_normal ?_
        refine Runs.has [(27, .d (.list (encs _))), (28, .d (.int _ _)), (29, .d (.int _ _))] ⟨rfl, rfl, rfl, trivial⟩ ?_
        refine Runs.seq ?_
        refine Runs.block ?_
        refine Runs.rseq ?_
        refine RO.opv (v' := .d (.ptr _)) (opv_index_terms rfl rfl hk) rfl ?_
        refine RO.opv (v' := .d (enc _)) (opv_load_pterm rfl) rfl ?_
        refine RO.opn (v' := .ref 1 0) (O' := [_, _]) (opv_alloc) rfl rfl ?_
        refine RO.op0n (O' := [_, _]) (opv_store_term rfl rfl rfl (Nat.le_of_ble_eq_true rfl)) rfl ?_
        refine RO.nil ?_
        refine Runs.has [(4, .ref 1 0), (27, .d (.list (encs _))), (28, .d (.int _ _)), (29, .d (.int _ _))] ⟨rfl, rfl, rfl, rfl, trivial⟩ ?_
        refine Runs.rseq ?_
        refine RO.opv (v' := .d (enc _)) (opv_load_term rfl rfl rfl) rfl ?_
        refine RO.opc (opv_callF (ih t.kids[i] (by have := sizes_mem (List.getElem_mem (l := t.kids) (n := i) hk); omega) (by have := bulks_mem (List.getElem_mem (l := t.kids) (n := i) hk); omega)) rfl rfl rfl trivial) (fun h10 => ?_) (fun h10 => ?_)
        · skip
          have ho := h10
          refine RO.nil ?_
          refine Runs.condT rfl ?_
          refine Runs.has [(27, .d (.list (encs _))), (28, .d (.int _ _)), (29, .d (.int _ _))] ⟨rfl, rfl, rfl, trivial⟩ ?_
          refine Runs.rseq ?_
          refine RO.opv (v' := .d (.bool true)) (opv_assign rfl) rfl ?_
          refine RO.nil ?_
          refine Runs.ret ?_
          refine blockQ_ret ?_
          refine thenQ_ret ?_
          refine thenQ_ret ?_
          refine blockQ_ret ?_
          refine thenQ_ret ?_
          refine EndQ.tmp (.inr rfl) rfl rfl 0 (by exact Nat.le_refl _) (by exact Nat.zero_le _) trivial ⟨?_, rfl⟩
          first
            | (refine bool_eq ?_; rw [opens_eq, show t.ctl = false from by unfold Term.ctl; rw [c1, c2, c3, c4]; rfl]; rfl)
            | (refine bool_eq ?_; rw [opens_eq, hctl]; exact (openss_yes hk ho).symm)
            | (refine bool_eq ?_; rw [opens_eq, hctl]; exact (openss_no fun j hj => hi.2 j hj (by omega)).symm)
        · skip
          have ho := h10
          refine RO.nil ?_
          refine Runs.condF rfl ?_
          refine Runs.skip ?_
          refine blockQ_normal ?_
          refine thenQ_normal ?_
          refine Runs.has [(27, .d (.list (encs _))), (28, .d (.int _ _)), (29, .d (.int _ _))] ⟨rfl, rfl, rfl, trivial⟩ ?_
          refine Runs.region ?_
          refine RO.opv (v' := .d (.int _ _)) (opv_bin rfl rfl rfl) rfl ?_
          refine RO.opv (v' := .d (.int _ _)) (opv_move rfl) rfl ?_
          refine RO.nil ?_
          refine thenQ_normal ?_
          refine ⟨i + 1, 1, (by rw [hK]; exact Nat.le_of_ble_eq_true rfl), ⟨rfl, rfl, trivial⟩, ⟨?_, trivial⟩, rfl, ?_, ?_⟩
          · refine int_eq ?_; rw [wrap64 (by omega) (by omega)]; omega
          · refine ⟨by omega, fun j hj h => ?_⟩
            rcases Nat.lt_succ_iff_lt_or_eq.1 h with h' | h'
            · exact hi.2 j hj h'
            · subst h'; exact ho
          · omega
      · skip
        have hk : i = t.kids.length := by simp at h9; omega
        refine RO.nil ?_
        refine Runs.seq ?_
        refine Runs.condF rfl ?_
        refine Runs.exit ?_
        refine thenQ_exit ?_
        refine thenQ_exit ?_
        refine blockQ_here ?_
        refine thenQ_normal ?_
        refine Runs.has [] trivial ?_
        refine Runs.rseq ?_
        refine RO.opv (v' := .d (.bool false)) (opv_assign rfl) rfl ?_
        refine RO.nil ?_
        refine Runs.ret ?_
        refine EndQ.tmp (.inr rfl) rfl rfl 0 (by exact Nat.le_refl _) (by exact Nat.zero_le _) trivial ⟨?_, rfl⟩
        first
          | (refine bool_eq ?_; rw [opens_eq, show t.ctl = false from by unfold Term.ctl; rw [c1, c2, c3, c4]; rfl]; rfl)
          | (refine bool_eq ?_; rw [opens_eq, hctl]; exact (openss_yes hk ho).symm)
          | (refine bool_eq ?_; rw [opens_eq, hctl]; exact (openss_no fun j hj => hi.2 j hj (by omega)).symm)
  · skip
    have c1 : t.isN bComma 2 = true := Bool.not_eq_false' _ ▸ h1
    refine RO.off rfl ?_
    refine RO.off rfl ?_
    refine RO.off rfl ?_
    refine RO.opv (v' := .d (.bool false)) (opv_pick rfl rfl) rfl ?_
    refine RO.opv (v' := .d (.bool false)) (opv_move rfl) rfl ?_
    refine RO.off rfl ?_
    refine RO.off rfl ?_
    refine RO.off rfl ?_
    refine RO.opv (v' := .d (.bool false)) (opv_pick rfl rfl) rfl ?_
    refine RO.opv (v' := .d (.bool false)) (opv_move rfl) rfl ?_
    refine RO.off rfl ?_
    refine RO.off rfl ?_
    refine RO.off rfl ?_
    refine RO.opv (v' := .d (.bool false)) (opv_pick rfl rfl) rfl ?_
    refine RO.nil ?_
    refine Runs.condF rfl ?_
    refine Runs.skip ?_
    refine thenQ_normal ?_
    refine Runs.has [(1, .ref 0 0), (2, .d (.bool false))] ⟨rfl, rfl, trivial⟩ ?_
    refine Runs.seq ?_
    refine Runs.rseq ?_
    refine RO.opv (v' := .ref 0 3) (opv_field_ref rfl rfl) rfl ?_
    refine RO.opv (v' := .d (.list (encs _))) (opv_load_ref rfl rfl rfl) rfl ?_
    refine RO.opv (v' := .d (.int _ _)) (opv_len_terms rfl) rfl ?_
    refine RO.opv (v' := .d (.int _ _)) (opv_move rfl) rfl ?_
    refine RO.nil ?_
    refine Runs.block ?_
    have hctl : t.ctl = true := by unfold Term.ctl; first | (rw [c1]; rfl) | (rw [c1, c2]; rfl) | (rw [c1, c2, c3]; rfl) | (rw [c1, c2, c3, c4]; rfl)
    refine Runs.loopC (X := Nat) (fun i => i ≤ t.kids.length ∧ ∀ (j : Nat) (hj : j < t.kids.length), j < i → t.kids[j].opens = false) (fun i => t.kids.length - i) [(27, .d (.list (encs _))), (28, .d (.int _ _))] (fun i => [(29, .d (.int .i64 (i : Nat)))]) [_] (fun i => []) (0) ⟨rfl, rfl, trivial⟩ ⟨rfl, trivial⟩ rfl ⟨Nat.zero_le _, fun j _ h => absurd h (Nat.not_lt_zero _)⟩ fun i hi => ?_
    refine Runs.rseq ?_
    refine RO.opc (opv_bin rfl rfl rfl) (fun h11 => ?_) (fun h11 => ?_)
    · skip
      have hk : i < t.kids.length := by simpa using h11
      refine RO.nil ?_
      refine Runs.seq ?_
      refine Runs.condT rfl ?_
      refine Runs.skip ?_
      refine thenQ_normal ?_
      refine Runs.has [(27, .d (.list (encs _))), (28, .d (.int _ _)), (29, .d (.int _ _))] ⟨rfl, rfl, rfl, trivial⟩ ?_
      refine Runs.seq ?_
      refine Runs.block ?_
      refine Runs.rseq ?_
      refine RO.opv (v' := .d (.ptr _)) (opv_index_terms rfl rfl hk) rfl ?_
      refine RO.opv (v' := .d (enc _)) (opv_load_pterm rfl) rfl ?_
      refine RO.opn (v' := .ref 1 0) (O' := [_, _]) (opv_alloc) rfl rfl ?_
      refine RO.op0n (O' := [_, _]) (opv_store_term rfl rfl rfl (Nat.le_of_ble_eq_true rfl)) rfl ?_
      refine RO.nil ?_
      refine Runs.has [(4, .ref 1 0), (27, .d (.list (encs _))), (28, .d (.int _ _)), (29, .d (.int _ _))] ⟨rfl, rfl, rfl, rfl, trivial⟩ ?_
      refine Runs.rseq ?_
      refine RO.opv (v' := .d (enc _)) (opv_load_term rfl rfl rfl) rfl ?_
      refine RO.opc (opv_callF (ih t.kids[i] (by have := sizes_mem (List.getElem_mem (l := t.kids) (n := i) hk); omega) (by have := bulks_mem (List.getElem_mem (l := t.kids) (n := i) hk); omega)) rfl rfl rfl trivial) (fun h12 => ?_) (fun h12 => ?_)
      · skip
        have ho := h12
        refine RO.nil ?_
        refine Runs.condT rfl ?_
        refine Runs.has [(27, .d (.list (encs _))), (28, .d (.int _ _)), (29, .d (.int _ _))] ⟨rfl, rfl, rfl, trivial⟩ ?_
        refine Runs.rseq ?_
        refine RO.opv (v' := .d (.bool true)) (opv_assign rfl) rfl ?_
        refine RO.nil ?_
        refine Runs.ret ?_
        refine blockQ_ret ?_
        refine thenQ_ret ?_
        refine thenQ_ret ?_
        refine blockQ_ret ?_
        refine thenQ_ret ?_
        refine EndQ.tmp (.inr rfl) rfl rfl 0 (by exact Nat.le_refl _) (by exact Nat.zero_le _) trivial ⟨?_, rfl⟩
        first
          | (refine bool_eq ?_; rw [opens_eq, show t.ctl = false from by unfold Term.ctl; rw [c1, c2, c3, c4]; rfl]; rfl)
          | (refine bool_eq ?_; rw [opens_eq, hctl]; exact (openss_yes hk ho).symm)
          | (refine bool_eq ?_; rw [opens_eq, hctl]; exact (openss_no fun j hj => hi.2 j hj (by omega)).symm)
      · skip
        have ho := h12
        refine RO.nil ?_
        refine Runs.condF rfl ?_
        refine Runs.skip ?_
        refine blockQ_normal ?_
        refine thenQ_normal ?_
        refine Runs.has [(27, .d (.list (encs _))), (28, .d (.int _ _)), (29, .d (.int _ _))] ⟨rfl, rfl, rfl, trivial⟩ ?_
        refine Runs.region ?_
        refine RO.opv (v' := .d (.int _ _)) (opv_bin rfl rfl rfl) rfl ?_
        refine RO.opv (v' := .d (.int _ _)) (opv_move rfl) rfl ?_
        refine RO.nil ?_
        refine thenQ_normal ?_
        refine ⟨i + 1, 1, (by rw [hK]; exact Nat.le_of_ble_eq_true rfl), ⟨rfl, rfl, trivial⟩, ⟨?_, trivial⟩, rfl, ?_, ?_⟩
        · refine int_eq ?_; rw [wrap64 (by omega) (by omega)]; omega
        · refine ⟨by omega, fun j hj h => ?_⟩
          rcases Nat.lt_succ_iff_lt_or_eq.1 h with h' | h'
          · exact hi.2 j hj h'
          · subst h'; exact ho
        · omega
    · skip
      have hk : i = t.kids.length := by simp at h11; omega
      refine RO.nil ?_
      refine Runs.seq ?_
      refine Runs.condF rfl ?_
      refine Runs.exit ?_
      refine thenQ_exit ?_
      refine thenQ_exit ?_
      refine blockQ_here ?_
      refine thenQ_normal ?_
      refine Runs.has [] trivial ?_
      refine Runs.rseq ?_
      refine RO.opv (v' := .d (.bool false)) (opv_assign rfl) rfl ?_
      refine RO.nil ?_
      refine Runs.ret ?_
      refine EndQ.tmp (.inr rfl) rfl rfl 0 (by exact Nat.le_refl _) (by exact Nat.zero_le _) trivial ⟨?_, rfl⟩
      first
        | (refine bool_eq ?_; rw [opens_eq, show t.ctl = false from by unfold Term.ctl; rw [c1, c2, c3, c4]; rfl]; rfl)
        | (refine bool_eq ?_; rw [opens_eq, hctl]; exact (openss_yes hk ho).symm)
        | (refine bool_eq ?_; rw [opens_eq, hctl]; exact (openss_no fun j hj => hi.2 j hj (by omega)).symm)
theorem open_fn (t : Term) (hb : t.bulk ≤ 2 ^ 30) : Fn Try.prog 66 [.d (enc t)] [] (.d (.bool t.opens)) [] := open_aux t.size t (Nat.le_refl _) hb
theorem cwalk_fn {S : Type} (x0 x1 x2 : S → AObj) (TL : Nat → AV) (NL : Nat) (ps : Array Tmp) (ag bo jmp : Code) (f : S → Term → S × Bool) (Pre : S → Nat → Prop) (B : Nat) (hy : ∀ (σ : S) (p : Term) (n : Nat), p.bulk ≤ B → Pre σ (n + 1) → Yl Try.prog 3 [.d (enc p)] [x0 (σ), x1 (σ), x2 (σ), .loopo TL NL ps ag bo .ready none] (f σ p).2 [x0 ((f σ p).1), x1 ((f σ p).1), x2 ((f σ p).1), .loopo TL NL ps ag bo (stOf (jOf (f σ p).2 jmp)) (jOf (f σ p).2 jmp)]) (hp : ∀ (σ : S) (p : Term) (n : Nat), Pre σ (n + 1) → (f σ p).2 = true → Pre (f σ p).1 n) (hB : B ≤ 2 ^ 30) : ∀ (m : Nat) (t : Term) (σ : S) (n : Nat), t.size ≤ m → t.bulk ≤ B → Pre σ (t.size + n) → Fn Try.prog 87 [.d (enc t), .yld 3] [x0 (σ), x1 (σ), x2 (σ), .loopo TL NL ps ag bo .ready none] (.d (.bool (walkF f t σ).2)) [x0 ((walkF f t σ).1), x1 ((walkF f t σ).1), x2 ((walkF f t σ).1), .loopo TL NL ps ag bo (stOf (jOf (walkF f t σ).2 jmp)) (jOf (walkF f t σ).2 jmp)] := by
  intro m
  induction m with
  | zero => intro t σ n h; have := t.size_kids; omega
  | succ m ih =>
  intro t σ n hm hb hP
  have hS := t.size_kids
  have hU := t.bulk_kids
  have hL := bulks_len t.kids
  refine Does.run Try.func87 rfl Try.ntmps87 rfl fun K hK => ?_
  refine Runs.rseq ?_
  refine RO.opn (v' := .ref 4 0) (O' := [_, _, _, _, _]) (opv_box_term rfl) rfl rfl ?_
  refine RO.opv (v' := .d (.bool false)) (opv_assign rfl) rfl ?_
  refine RO.nil ?_
  refine Runs.has [(1, .yld 3), (2, .ref 4 0), (4, .d (.bool false))] ⟨rfl, rfl, rfl, trivial⟩ ?_
  refine Runs.seq ?_
  refine Runs.rseq ?_
  refine RO.opv (v' := .yld 3) (opv_move rfl) rfl ?_
  refine RO.opv (v' := .d (enc _)) (opv_load_term rfl rfl rfl) rfl ?_
  refine RO.opn (v' := .d (.bool _)) (O' := [_, _, _, _, _]) (opv_yield (hy σ t (sizes t.kids + n) hb (by rw [hS] at hP; rw [show sizes t.kids + n + 1 = sizes t.kids + 1 + n by omega]; exact hP)) rfl rfl (Nat.le_of_ble_eq_true rfl) ⟨_, _, _, _, _, _, _, rfl⟩ rfl ⟨trivial, trivial⟩) rfl rfl ?_
  refine RO.opc (opv_not rfl rfl) (fun h1 => ?_) (fun h1 => ?_)
  · try simp only [Z.a, Z.b, Z.c, Z.d, Z.e, Z.f, Z.g, Z.h, Z.i, Z.j, Z.k, Z.l, Z.m] at h1
    rw [h1]
    refine RO.nil ?_
    refine Runs.condT rfl ?_
    refine Runs.has [(1, .yld 3), (2, .ref 4 0), (4, .d (.bool false))] ⟨rfl, rfl, rfl, trivial⟩ ?_
    refine Runs.rseq ?_
    refine RO.opv (v' := .d (.bool false)) (opv_assign rfl) rfl ?_
    refine RO.nil ?_
    refine Runs.ret ?_
    refine thenQ_ret ?_
    refine EndQ.tmp (.inr rfl) rfl rfl 4 (by exact Nat.le_refl _) (by simp) trivial ⟨?_, ?_⟩
    · rw [walkF_false h1]; rfl
    · rw [walkF_false h1]; rfl
  · try simp only [Z.a, Z.b, Z.c, Z.d, Z.e, Z.f, Z.g, Z.h, Z.i, Z.j, Z.k, Z.l, Z.m] at h1
    rw [h1]
    refine RO.nil ?_
    refine Runs.condF rfl ?_
    refine Runs.skip ?_
    refine thenQ_normal ?_
    refine Runs.has [(1, .yld 3), (2, .ref 4 0), (4, .d (.bool false))] ⟨rfl, rfl, rfl, trivial⟩ ?_
    refine Runs.seq ?_
    refine Runs.rseq ?_
    refine RO.opv (v' := .ref 4 3) (opv_field_ref rfl rfl) rfl ?_
    refine RO.opv (v' := .d (.list (encs _))) (opv_load_ref rfl rfl rfl) rfl ?_
    refine RO.opv (v' := .d (.int _ _)) (opv_len_terms rfl) rfl ?_
    refine RO.opv (v' := .d (.int _ _)) (opv_move rfl) rfl ?_
    refine RO.nil ?_
    refine Runs.block ?_
    refine Runs.loopC (X := (Nat × S)) (fun x => x.1 ≤ t.kids.length ∧ walksF f (t.kids.drop x.1) x.2 = walksF f t.kids (f σ t).1 ∧ Pre x.2 (sizes (t.kids.drop x.1) + n)) (fun x => t.kids.length - x.1) [(1, .yld 3), (12, .d (.list (encs _))), (13, .d (.int _ _))] (fun x => [(14, .d (.int .i64 (x.1 : Nat)))]) [] (fun x => [x0 x.2, x1 x.2, x2 x.2, .loopo TL NL ps ag bo .ready none, .cells (cellsT t)]) (((0 : Nat), (f σ t).1)) ⟨rfl, rfl, rfl, trivial⟩ ⟨rfl, trivial⟩ rfl ⟨Nat.zero_le _, rfl, hp _ _ _ (by show Pre σ (sizes t.kids + n + 1); rw [hS] at hP; rw [show sizes t.kids + n + 1 = sizes t.kids + 1 + n by omega]; exact hP) h1⟩ fun x hi => ?_
    refine Runs.rseq ?_
    refine RO.opc (opv_bin rfl rfl rfl) (fun h2 => ?_) (fun h2 => ?_)
    · try simp only [Z.a, Z.b, Z.c, Z.d, Z.e, Z.f, Z.g, Z.h, Z.i, Z.j, Z.k, Z.l, Z.m] at h2
      have h2 : x.1 < t.kids.length := by omega
      refine RO.nil ?_
      refine Runs.seq ?_
      refine Runs.condT rfl ?_
      refine Runs.skip ?_
      refine thenQ_normal ?_
      refine Runs.has [(1, .yld 3), (12, .d (.list (encs _))), (13, .d (.int _ _)), (14, .d (.int _ _))] ⟨rfl, rfl, rfl, rfl, trivial⟩ ?_
      refine Runs.seq ?_
      refine Runs.block ?_
      refine Runs.rseq ?_
      refine RO.opv (v' := .d (.ptr _)) (opv_index_terms rfl rfl (by omega)) rfl ?_
      refine RO.opv (v' := .d (enc _)) (opv_load_pterm rfl) rfl ?_
      refine RO.opn (v' := .ref 5 0) (O' := [_, _, _, _, _, _]) (opv_alloc) rfl rfl ?_
      refine RO.op0n (O' := [_, _, _, _, _, _]) (opv_store_term rfl rfl rfl (Nat.le_of_ble_eq_true rfl)) rfl ?_
      refine RO.nil ?_
      refine Runs.has [(1, .yld 3), (6, .ref 5 0), (12, .d (.list (encs _))), (13, .d (.int _ _)), (14, .d (.int _ _))] ⟨rfl, rfl, rfl, rfl, rfl, trivial⟩ ?_
      refine Runs.rseq ?_
      refine RO.opv (v' := .d (enc _)) (opv_load_term rfl rfl rfl) rfl ?_
      refine RO.opv (v' := .yld 3) (opv_move rfl) rfl ?_
      refine RO.opn (v' := .d (.bool _)) (O' := [_, _, _, _, _, _]) (opv_callP 4 (ih t.kids[x.1] x.2 (sizes (t.kids.drop (x.1 + 1)) + n) (by have := sizes_mem (List.getElem_mem h2); omega) (by have := bulks_mem (List.getElem_mem h2); omega) (by have := hi.2.2; rw [drop_get h2, sizes, Nat.add_assoc] at this; exact this)) rfl rfl (Nat.le_of_ble_eq_true rfl) rfl ⟨trivial, Nat.lt_succ_self 3, trivial⟩) rfl rfl ?_
      refine RO.opc (opv_not rfl rfl) (fun h3 => ?_) (fun h3 => ?_)
      · try simp only [Z.a, Z.b, Z.c, Z.d, Z.e, Z.f, Z.g, Z.h, Z.i, Z.j, Z.k, Z.l, Z.m] at h3
        rw [h3]
        refine RO.nil ?_
        refine Runs.condT rfl ?_
        refine Runs.has [(1, .yld 3), (12, .d (.list (encs _))), (13, .d (.int _ _)), (14, .d (.int _ _))] ⟨rfl, rfl, rfl, rfl, trivial⟩ ?_
        refine Runs.rseq ?_
        refine RO.opv (v' := .d (.bool false)) (opv_assign rfl) rfl ?_
        refine RO.nil ?_
        refine Runs.ret ?_
        refine blockQ_ret ?_
        refine thenQ_ret ?_
        refine thenQ_ret ?_
        refine blockQ_ret ?_
        refine thenQ_ret ?_
        refine EndQ.tmp (.inr rfl) rfl rfl 4 (by exact Nat.le_refl _) (by simp) trivial ⟨?_, ?_⟩
        · rw [walkF_true h1, ← hi.2.1, drop_get h2, walksF_false h3]; rfl
        · rw [walkF_true h1, ← hi.2.1, drop_get h2, walksF_false h3]; rfl
      · try simp only [Z.a, Z.b, Z.c, Z.d, Z.e, Z.f, Z.g, Z.h, Z.i, Z.j, Z.k, Z.l, Z.m] at h3
        rw [h3]
        refine RO.nil ?_
        refine Runs.condF rfl ?_
        refine Runs.skip ?_
        refine blockQ_normal ?_
        refine thenQ_normal ?_
        refine Runs.has [(1, .yld 3), (12, .d (.list (encs _))), (13, .d (.int _ _)), (14, .d (.int _ _))] ⟨rfl, rfl, rfl, rfl, trivial⟩ ?_
        refine Runs.region ?_
        refine RO.opv (v' := .d (.int _ _)) (opv_bin rfl rfl rfl) rfl ?_
        refine RO.opv (v' := .d (.int _ _)) (opv_move rfl) rfl ?_
        refine RO.nil ?_
        refine thenQ_normal ?_
        refine ⟨(x.1 + 1, (walkF f t.kids[x.1] x.2).1), 5, (by rw [hK]; exact Nat.le_of_ble_eq_true rfl), ⟨rfl, rfl, rfl, trivial⟩, ⟨?_, trivial⟩, rfl, ?_, ?_⟩
        · refine int_eq ?_; rw [wrap64 (by omega) (by omega)]; omega
        · refine ⟨by show x.1 + 1 ≤ _; omega, ?_, ?_⟩
          · rw [← hi.2.1, drop_get h2, walksF_true h3]
          · refine walkF_pre hp _ _ _ ?_ h3; have := hi.2.2; rw [drop_get h2, sizes, Nat.add_assoc] at this; exact this
        · show t.kids.length - (x.1 + 1) < _; omega
    · try simp only [Z.a, Z.b, Z.c, Z.d, Z.e, Z.f, Z.g, Z.h, Z.i, Z.j, Z.k, Z.l, Z.m] at h2
      have h2 : x.1 = t.kids.length := by omega
      refine RO.nil ?_
      refine Runs.seq ?_
      refine Runs.condF rfl ?_
      refine Runs.exit ?_
      refine thenQ_exit ?_
      refine thenQ_exit ?_
      refine blockQ_here ?_
      refine thenQ_normal ?_
      refine Runs.has [] trivial ?_
      refine Runs.rseq ?_
      refine RO.opv (v' := .d (.bool true)) (opv_assign rfl) rfl ?_
      refine RO.nil ?_
      refine Runs.ret ?_
      refine EndQ.tmp (.inr rfl) rfl rfl 4 (by exact Nat.le_refl _) (by simp) trivial ⟨?_, ?_⟩
      · rw [walkF_true h1, ← hi.2.1, h2, List.drop_length]; rfl
      · rw [walkF_true h1, ← hi.2.1, h2, List.drop_length]; rfl
theorem cparts1_fn {S : Type} (x0 x1 x2 : S → AObj) (TL : Nat → AV) (NL : Nat) (ps : Array Tmp) (ag bo jmp : Code) (f : S → Term → S × Bool) (Pre : S → Nat → Prop) (B : Nat) (hy : ∀ (σ : S) (p : Term) (n : Nat), p.bulk ≤ B → Pre σ (n + 1) → Yl Try.prog 3 [.d (enc p)] [x0 (σ), x1 (σ), x2 (σ), .loopo TL NL ps ag bo .ready none] (f σ p).2 [x0 ((f σ p).1), x1 ((f σ p).1), x2 ((f σ p).1), .loopo TL NL ps ag bo (stOf (jOf (f σ p).2 jmp)) (jOf (f σ p).2 jmp)]) (hp : ∀ (σ : S) (p : Term) (n : Nat), Pre σ (n + 1) → (f σ p).2 = true → Pre (f σ p).1 n) (hB : B ≤ 2 ^ 30) (t : Term) (σ : S) (n : Nat) (hb : t.bulk ≤ B) (hP : Pre σ (t.size + n)) (r : S × Bool) (hr : walkF f t σ = r) : Fn Try.prog 86 [.yld 3, .d (.ptr (dcells t))] [x0 (σ), x1 (σ), x2 (σ), .loopo TL NL ps ag bo .ready none] (.tup []) [x0 (r.1), x1 (r.1), x2 (r.1), .loopo TL NL ps ag bo (stOf (jOf r.2 jmp)) (jOf r.2 jmp)] := by
  subst hr
  refine Does.run Try.func86 rfl Try.ntmps86 rfl fun K hK => ?_
  refine Runs.region ?_
  refine RO.opv (v' := .d (enc _)) (opv_load_pterm rfl) rfl ?_
  refine RO.opv (v' := .yld 3) (opv_move rfl) rfl ?_
  refine RO.opn (v' := .d (.bool _)) (O' := [_, _, _, _]) (opv_callP 4 (cwalk_fn x0 x1 x2 TL NL ps ag bo jmp f Pre B hy hp hB t.size t σ n (Nat.le_refl _) hb hP) rfl rfl (Nat.le_of_ble_eq_true rfl) rfl ⟨trivial, Nat.lt_succ_self 3, trivial⟩) rfl rfl ?_
  refine RO.nil ?_
  refine EndQ.none (.inl rfl) rfl 4 (by exact Nat.le_refl _) (by simp) ⟨rfl, rfl⟩
theorem cparts_fn (t : Term) : Fn Try.prog 82 [.d (enc t)] [] (.fn 86 [.d (.ptr (dcells t))]) [] := by
  refine Does.run Try.func82 rfl Try.ntmps82 rfl fun K hK => ?_
  refine Runs.rseq ?_
  refine RO.opn (v' := .ref 0 0) (O' := [_]) (opv_box_term rfl) rfl rfl ?_
  refine RO.opv (v' := .nilf) (opv_assign rfl) rfl ?_
  refine RO.nil ?_
  refine Runs.has [(1, .ref 0 0), (2, .nilf)] ⟨rfl, rfl, trivial⟩ ?_
  refine Runs.freeze 1 rfl rfl rfl ?_
  refine Runs.rseq ?_
  refine RO.opn (v' := .fn 86 _) (O' := [_]) (opv_makeFunc rfl) rfl rfl ?_
  refine RO.opv (v' := .fn 86 _) (opv_assign rfl) rfl ?_
  refine RO.nil ?_
  refine Runs.ret ?_
  refine EndQ.tmp (.inr rfl) rfl rfl 0 (by exact Nat.le_refl _) (by exact Nat.zero_le _) ⟨trivial, trivial⟩ ⟨?_, rfl⟩
  rfl
theorem some_fn (t : Term) (hb : t.bulk ≤ 2 ^ 30) (h : FuncId) [HF : Fnc Try.prog h] (caps : List AV) (hcb : AV.bds 0 caps) (q : Term → Bool) (hq : ∀ p : Term, p.bulk ≤ 2 ^ 30 → Fn Try.prog h ([.d (enc p)] ++ caps) [] (.d (.bool (q p))) []) : Fn Try.prog 67 [.d (enc t), .fn h caps] [] (.d (.bool (t.parts.any q))) [] := by
  refine Does.run Try.func67 rfl Try.ntmps67 rfl fun K hK => ?_
  refine Runs.rseq ?_
  refine RO.opn (v' := .ref 0 0) (O' := [_]) (opv_box_term rfl) rfl rfl ?_
  refine RO.opn (v' := .ref 1 0) (O' := [_, _]) (opv_box rfl rfl) rfl rfl ?_
  refine RO.opn (v' := .ref 2 0) (O' := [_, _, _]) (opv_alloc) rfl rfl ?_
  refine RO.nil ?_
  refine Runs.has [(2, .ref 0 0), (3, .ref 1 0), (4, .ref 2 0)] ⟨rfl, rfl, rfl, trivial⟩ ?_
  refine Runs.seq ?_
  refine Runs.rseq ?_
  refine RO.opv (v' := .d (enc _)) (opv_load_term rfl rfl rfl) rfl ?_
  refine RO.opv (v' := .fn 86 _) (opv_callF (cparts_fn t) rfl rfl rfl ⟨trivial, trivial⟩) rfl ?_
  refine RO.nil ?_
  refine Runs.block ?_
  refine Runs.has [(2, .ref 0 0), (3, .ref 1 0), (4, .ref 2 0), (7, .fn 86 [.d (.ptr (dcells t))])] ⟨rfl, rfl, rfl, rfl, trivial⟩ ?_
  rcases Bool.eq_false_or_eq_true (t.parts.all fun p => !(q p)) with ha | ha
  · skip
    refine Runs.rangeFunc (v := .tup []) (O' := [(fun (_ : Bool) => .cells (cellsT t)) true, (fun (_ : Bool) => .cells [.fn h caps]) true, (fun (σ : Bool) => .cells [.d (.bool (!σ))]) true]) (st := .ready) (j := none) rfl (tb_unk rfl) (cparts1_fn (fun (_ : Bool) => .cells (cellsT t)) (fun (_ : Bool) => .cells [.fn h caps]) (fun (σ : Bool) => .cells [.d (.bool (!σ))]) _ _ _ _ _ .ret (fun (_ : Bool) (p : Term) => (!(q p), !(q p))) (fun (σ : Bool) _ => σ = true) (2 ^ 30) ?_ (fun σ p n h h2 => h2) (Nat.le_refl _) t (true) 0 (hb) (rfl) ((true, true)) (by rw [walk_q, ha])) rfl (by decide) ?_
    · intro σ p n hpB hpre
      have hσ : σ = true := hpre
      subst hσ
      rcases (Bool.eq_false_or_eq_true (q p)).symm with hb' | hb'
      · skip
        simp only [hb']
        try dsimp only
        refine Yl.intro (TL := tb [(2, .ref 0 0), (3, .ref 1 0), (4, .ref 2 0), (7, .fn 86 [.d (.ptr (dcells t))])]) (NL := 12) (ps := #[8]) (xs := [.d (enc p)]) (Op := [(fun (_ : Bool) => .cells (cellsT t)) true, (fun (_ : Bool) => .cells [.fn h caps]) true, (fun (σ : Bool) => .cells [.d (.bool (!σ))]) true]) (O1' := [.cells (cellsT t), .cells [.fn h caps], .cells [.d (.bool false)]]) (j := none) (by decide) rfl (fun ro K hK => ?_) (tb_unk rfl)
        refine Runs.region ?_
        refine RO.opn (v' := .ref 4 0) (O' := [_, _, _, _, _]) (opv_alloc) rfl rfl ?_
        refine RO.op0n (O' := [_, _, _, _, _]) (opv_store_term rfl rfl rfl (Nat.le_of_ble_eq_true rfl)) rfl ?_
        refine RO.nil ?_
        refine ⟨rfl, rfl, ?_⟩
        refine Runs.block ?_
        refine Runs.rseq ?_
        refine RO.opv (v' := .fn _ _) (opv_load_ref rfl rfl rfl) rfl ?_
        refine RO.opv (v' := .d (enc _)) (opv_load_term rfl rfl rfl) rfl ?_
        refine RO.opc (opv_callP 0 (hq p hpB) rfl rfl (Nat.zero_le _) rfl ⟨trivial, hcb⟩) (fun h1 => ?_) (fun h1 => ?_)
        · try simp only [Z.a, Z.b, Z.c, Z.d, Z.e, Z.f, Z.g, Z.h, Z.i, Z.j, Z.k, Z.l, Z.m] at h1
          rw [hb'] at h1; cases h1
        · try simp only [Z.a, Z.b, Z.c, Z.d, Z.e, Z.f, Z.g, Z.h, Z.i, Z.j, Z.k, Z.l, Z.m] at h1
          refine RO.nil ?_
          refine Runs.condF rfl ?_
          refine Runs.skip ?_
          refine blockQ_normal ?_
          exact ⟨rfl, rfl, rfl, rfl⟩
      · skip
        simp only [hb']
        try dsimp only
        refine Yl.intro (TL := tb [(2, .ref 0 0), (3, .ref 1 0), (4, .ref 2 0), (7, .fn 86 [.d (.ptr (dcells t))])]) (NL := 12) (ps := #[8]) (xs := [.d (enc p)]) (Op := [(fun (_ : Bool) => .cells (cellsT t)) true, (fun (_ : Bool) => .cells [.fn h caps]) true, (fun (σ : Bool) => .cells [.d (.bool (!σ))]) true]) (O1' := [.cells (cellsT t), .cells [.fn h caps], .cells [.d (.bool true)]]) (j := (some .ret)) (by decide) rfl (fun ro K hK => ?_) (tb_unk rfl)
        refine Runs.region ?_
        refine RO.opn (v' := .ref 4 0) (O' := [_, _, _, _, _]) (opv_alloc) rfl rfl ?_
        refine RO.op0n (O' := [_, _, _, _, _]) (opv_store_term rfl rfl rfl (Nat.le_of_ble_eq_true rfl)) rfl ?_
        refine RO.nil ?_
        refine ⟨rfl, rfl, ?_⟩
        refine Runs.block ?_
        refine Runs.rseq ?_
        refine RO.opv (v' := .fn _ _) (opv_load_ref rfl rfl rfl) rfl ?_
        refine RO.opv (v' := .d (enc _)) (opv_load_term rfl rfl rfl) rfl ?_
        refine RO.opc (opv_callP 0 (hq p hpB) rfl rfl (Nat.zero_le _) rfl ⟨trivial, hcb⟩) (fun h2 => ?_) (fun h2 => ?_)
        · try simp only [Z.a, Z.b, Z.c, Z.d, Z.e, Z.f, Z.g, Z.h, Z.i, Z.j, Z.k, Z.l, Z.m] at h2
          refine RO.nil ?_
          refine Runs.condT rfl ?_
          refine Runs.rseq ?_
          refine RO.op0n (O' := [_, _, _, _, _]) (opv_store_ref rfl rfl rfl rfl rfl (Nat.le_of_ble_eq_true rfl) rfl) rfl ?_
          refine RO.nil ?_
          refine Runs.ret ?_
          refine blockQ_ret ?_
          exact ⟨rfl, rfl, rfl, rfl⟩
        · try simp only [Z.a, Z.b, Z.c, Z.d, Z.e, Z.f, Z.g, Z.h, Z.i, Z.j, Z.k, Z.l, Z.m] at h2
          rw [hb'] at h2; cases h2
    refine blockQ_normal ?_
    refine thenQ_normal ?_
    refine Runs.has [(4, .ref 2 0)] ⟨rfl, trivial⟩ ?_
    refine Runs.rseq ?_
    refine RO.op0n (O' := [_, _, _]) (opv_store_ref rfl rfl rfl rfl rfl (Nat.le_of_ble_eq_true rfl) rfl) rfl ?_
    refine RO.nil ?_
    refine Runs.ret ?_
    refine EndQ.cell (.inr rfl) rfl rfl rfl rfl 0 (by exact Nat.le_refl _) (by exact Nat.zero_le _) (by exact trivial) ⟨?_, rfl⟩
    refine bool_eq ?_; rw [any_not, ha]; try rfl
  · skip
    refine Runs.rangeFunc (v := .tup []) (O' := [(fun (_ : Bool) => .cells (cellsT t)) false, (fun (_ : Bool) => .cells [.fn h caps]) false, (fun (σ : Bool) => .cells [.d (.bool (!σ))]) false]) (st := .done) (j := (some .ret)) rfl (tb_unk rfl) (cparts1_fn (fun (_ : Bool) => .cells (cellsT t)) (fun (_ : Bool) => .cells [.fn h caps]) (fun (σ : Bool) => .cells [.d (.bool (!σ))]) _ _ _ _ _ .ret (fun (_ : Bool) (p : Term) => (!(q p), !(q p))) (fun (σ : Bool) _ => σ = true) (2 ^ 30) ?_ (fun σ p n h h2 => h2) (Nat.le_refl _) t (true) 0 (hb) (rfl) ((false, false)) (by rw [walk_q, ha])) rfl (by decide) ?_
    · intro σ p n hpB hpre
      have hσ : σ = true := hpre
      subst hσ
      rcases (Bool.eq_false_or_eq_true (q p)).symm with hb' | hb'
      · skip
        simp only [hb']
        try dsimp only
        refine Yl.intro (TL := tb [(2, .ref 0 0), (3, .ref 1 0), (4, .ref 2 0), (7, .fn 86 [.d (.ptr (dcells t))])]) (NL := 12) (ps := #[8]) (xs := [.d (enc p)]) (Op := [(fun (_ : Bool) => .cells (cellsT t)) true, (fun (_ : Bool) => .cells [.fn h caps]) true, (fun (σ : Bool) => .cells [.d (.bool (!σ))]) true]) (O1' := [.cells (cellsT t), .cells [.fn h caps], .cells [.d (.bool false)]]) (j := none) (by decide) rfl (fun ro K hK => ?_) (tb_unk rfl)
        refine Runs.region ?_
        refine RO.opn (v' := .ref 4 0) (O' := [_, _, _, _, _]) (opv_alloc) rfl rfl ?_
        refine RO.op0n (O' := [_, _, _, _, _]) (opv_store_term rfl rfl rfl (Nat.le_of_ble_eq_true rfl)) rfl ?_
        refine RO.nil ?_
        refine ⟨rfl, rfl, ?_⟩
        refine Runs.block ?_
        refine Runs.rseq ?_
        refine RO.opv (v' := .fn _ _) (opv_load_ref rfl rfl rfl) rfl ?_
        refine RO.opv (v' := .d (enc _)) (opv_load_term rfl rfl rfl) rfl ?_
        refine RO.opc (opv_callP 0 (hq p hpB) rfl rfl (Nat.zero_le _) rfl ⟨trivial, hcb⟩) (fun h3 => ?_) (fun h3 => ?_)
        · try simp only [Z.a, Z.b, Z.c, Z.d, Z.e, Z.f, Z.g, Z.h, Z.i, Z.j, Z.k, Z.l, Z.m] at h3
          rw [hb'] at h3; cases h3
        · try simp only [Z.a, Z.b, Z.c, Z.d, Z.e, Z.f, Z.g, Z.h, Z.i, Z.j, Z.k, Z.l, Z.m] at h3
          refine RO.nil ?_
          refine Runs.condF rfl ?_
          refine Runs.skip ?_
          refine blockQ_normal ?_
          exact ⟨rfl, rfl, rfl, rfl⟩
      · skip
        simp only [hb']
        try dsimp only
        refine Yl.intro (TL := tb [(2, .ref 0 0), (3, .ref 1 0), (4, .ref 2 0), (7, .fn 86 [.d (.ptr (dcells t))])]) (NL := 12) (ps := #[8]) (xs := [.d (enc p)]) (Op := [(fun (_ : Bool) => .cells (cellsT t)) true, (fun (_ : Bool) => .cells [.fn h caps]) true, (fun (σ : Bool) => .cells [.d (.bool (!σ))]) true]) (O1' := [.cells (cellsT t), .cells [.fn h caps], .cells [.d (.bool true)]]) (j := (some .ret)) (by decide) rfl (fun ro K hK => ?_) (tb_unk rfl)
        refine Runs.region ?_
        refine RO.opn (v' := .ref 4 0) (O' := [_, _, _, _, _]) (opv_alloc) rfl rfl ?_
        refine RO.op0n (O' := [_, _, _, _, _]) (opv_store_term rfl rfl rfl (Nat.le_of_ble_eq_true rfl)) rfl ?_
        refine RO.nil ?_
        refine ⟨rfl, rfl, ?_⟩
        refine Runs.block ?_
        refine Runs.rseq ?_
        refine RO.opv (v' := .fn _ _) (opv_load_ref rfl rfl rfl) rfl ?_
        refine RO.opv (v' := .d (enc _)) (opv_load_term rfl rfl rfl) rfl ?_
        refine RO.opc (opv_callP 0 (hq p hpB) rfl rfl (Nat.zero_le _) rfl ⟨trivial, hcb⟩) (fun h4 => ?_) (fun h4 => ?_)
        · try simp only [Z.a, Z.b, Z.c, Z.d, Z.e, Z.f, Z.g, Z.h, Z.i, Z.j, Z.k, Z.l, Z.m] at h4
          refine RO.nil ?_
          refine Runs.condT rfl ?_
          refine Runs.rseq ?_
          refine RO.op0n (O' := [_, _, _, _, _]) (opv_store_ref rfl rfl rfl rfl rfl (Nat.le_of_ble_eq_true rfl) rfl) rfl ?_
          refine RO.nil ?_
          refine Runs.ret ?_
          refine blockQ_ret ?_
          exact ⟨rfl, rfl, rfl, rfl⟩
        · try simp only [Z.a, Z.b, Z.c, Z.d, Z.e, Z.f, Z.g, Z.h, Z.i, Z.j, Z.k, Z.l, Z.m] at h4
          rw [hb'] at h4; cases h4
    show Runs _ _ _ _ _ _ _ _
    refine Runs.ret ?_
    refine blockQ_ret ?_
    refine thenQ_ret ?_
    refine EndQ.cell (.inr rfl) rfl rfl rfl rfl 0 (by exact Nat.le_refl _) (by exact Nat.zero_le _) (by exact trivial) ⟨?_, rfl⟩
    refine bool_eq ?_; rw [any_not, ha]; try rfl
end Go.Proofs.Ytohncglpjiplaaa.AM
