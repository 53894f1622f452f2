import Derived.Test.YtohncglpjiplaaaL0
import Derived.Test.YtohncglpjiplaaaEg
namespace Go.Proofs.Ytohncglpjiplaaa.AM
open Go
set_option linter.unusedVariables false
set_option linter.unusedSimpArgs false
set_option maxRecDepth 100000
theorem ropen_aux  : ∀ (m : Nat) (t : Term), t.size ≤ m → t.bulk ≤ 2 ^ 30 → Fn Try.prog 48 [.d (enc t)] [] (.d (.bool t.opens)) [] := by
  intro m
  induction m with
  | zero => intro t h; have := t.size_kids; omega
  | succ m ih =>
  intro t hm hb
  have hS := t.size_kids
  have hU := t.bulk_kids
  have hL := bulks_len t.kids
  refine Does.run Try.func48 rfl Try.ntmps48 rfl fun K hK => ?_
  refine Runs.rseq ?_
  refine RO.opn (v' := .ref 0 0) (O' := [_]) (opv_box_term rfl) rfl rfl ?_
  refine RO.opv (v' := .d (.bool false)) (opv_assign rfl) rfl ?_
  refine RO.nil ?_
  refine Runs.has [(1, .ref 0 0), (2, .d (.bool false))] ⟨rfl, rfl, trivial⟩ ?_
  refine Runs.seq ?_
  refine Runs.rseq ?_
  refine RO.opv (v' := .ref 0 0) (opv_field_ref rfl rfl) rfl ?_
  refine RO.opv (v' := .d (.int _ _)) (opv_load_ref rfl rfl rfl) rfl ?_
  refine RO.opc (opv_bin rfl rfl rfl) (fun h1 => ?_) (fun h1 => ?_)
  · try simp only [Z.a, Z.b, Z.c, Z.d, Z.e, Z.f, Z.g, Z.h, Z.i, Z.j, Z.k, Z.l, Z.m] at h1
    have hv : t.kind = 1 := h1
    refine RO.nil ?_
    refine Runs.condT rfl ?_
    refine Runs.has [(1, .ref 0 0), (2, .d (.bool false))] ⟨rfl, rfl, trivial⟩ ?_
    refine Runs.rseq ?_
    refine RO.opv (v' := .d (.bool true)) (opv_assign rfl) rfl ?_
    refine RO.nil ?_
    refine Runs.ret ?_
    refine thenQ_ret ?_
    refine EndQ.tmp (.inr rfl) rfl rfl 0 (by exact Nat.le_refl _) (by exact Nat.zero_le _) trivial ⟨?_, rfl⟩
    first
      | (refine bool_eq ?_; exact (opens_isv hv).symm)
      | (refine bool_eq ?_; rw [opens_two hor hk0 hk1 hlen, ho]; first | done | rfl)
      | (refine bool_eq ?_; rw [opens_not c4 hk0]; first | done | rfl)
      | (refine bool_eq ?_; exact (opens_none hv hor c4).symm)
  · try simp only [Z.a, Z.b, Z.c, Z.d, Z.e, Z.f, Z.g, Z.h, Z.i, Z.j, Z.k, Z.l, Z.m] at h1
    have hv : ¬ t.kind = 1 := h1
    refine RO.nil ?_
    refine Runs.condF rfl ?_
    refine Runs.skip ?_
    refine thenQ_normal ?_
    refine Runs.has [(1, .ref 0 0), (2, .d (.bool false))] ⟨rfl, rfl, trivial⟩ ?_
    refine Runs.seq ?_
    refine Runs.rseq ?_
    refine RO.opv (v' := .d (enc _)) (opv_load_term rfl rfl rfl) rfl ?_
    refine RO.opv (v' := .d (.bool _)) (opv_callF (ris_fn t _ _) rfl rfl rfl trivial) rfl ?_
    refine RO.opc (opv_move rfl) (fun h2 => ?_) (fun h2 => ?_)
    · try simp only [Z.a, Z.b, Z.c, Z.d, Z.e, Z.f, Z.g, Z.h, Z.i, Z.j, Z.k, Z.l, Z.m] at h2
      have c1 : t.isN bComma 2 = true := h2
      have hor : (t.isN bComma 2 || t.isN bSemi 2 || t.isN bArrow 2) = true := by rw [c1]; rfl
      have hlen : t.kids.length = 2 := isN_len (n := 2) c1
      have hk0 : 0 < t.kids.length := by omega
      have hk1 : 1 < t.kids.length := by omega
      refine RO.off rfl ?_
      refine RO.off rfl ?_
      refine RO.opv (v' := .d (.bool true)) (opv_pick rfl rfl) rfl ?_
      refine RO.opv (v' := .d (.bool true)) (opv_move rfl) rfl ?_
      refine RO.off rfl ?_
      refine RO.off rfl ?_
      refine RO.opv (v' := .d (.bool true)) (opv_pick rfl rfl) rfl ?_
      refine RO.nil ?_
      refine Runs.condT rfl ?_
      refine Runs.has [(1, .ref 0 0), (2, .d (.bool false))] ⟨rfl, rfl, trivial⟩ ?_
      refine Runs.rseq ?_
      refine RO.opv (v' := .ref 0 3) (opv_field_ref rfl rfl) rfl ?_
      refine RO.opv (v' := .d (.list (encs _))) (opv_load_ref rfl rfl rfl) rfl ?_
      refine RO.opv (v' := .d (.ptr _)) (opv_index_terms (i := 0) rfl rfl hk0) rfl ?_
      refine RO.opv (v' := .d (enc _)) (opv_load_pterm rfl) rfl ?_
      refine RO.opv (v' := .d (.bool _)) (opv_callF (ih t.kids[0] (by have := sizes_mem (List.getElem_mem (l := t.kids) (n := 0) hk0); omega) (by have := bulks_mem (List.getElem_mem (l := t.kids) (n := 0) hk0); omega)) rfl rfl rfl trivial) rfl ?_
      refine RO.opc (opv_move rfl) (fun h3 => ?_) (fun h3 => ?_)
      · try simp only [Z.a, Z.b, Z.c, Z.d, Z.e, Z.f, Z.g, Z.h, Z.i, Z.j, Z.k, Z.l, Z.m] at h3
        have ho := h3
        refine RO.off rfl ?_
        refine RO.off rfl ?_
        refine RO.off rfl ?_
        refine RO.off rfl ?_
        refine RO.off rfl ?_
        refine RO.opv (v' := .d (.bool true)) (opv_pick rfl rfl) rfl ?_
        refine RO.opv (v' := .d (.bool true)) (opv_assign rfl) rfl ?_
        refine RO.nil ?_
        refine Runs.ret ?_
        refine thenQ_ret ?_
        refine EndQ.tmp (.inr rfl) rfl rfl 0 (by exact Nat.le_refl _) (by exact Nat.zero_le _) trivial ⟨?_, rfl⟩
        first
          | (refine bool_eq ?_; exact (opens_isv hv).symm)
          | (refine bool_eq ?_; rw [opens_two hor hk0 hk1 hlen, ho]; first | done | rfl)
          | (refine bool_eq ?_; rw [opens_not c4 hk0]; first | done | rfl)
          | (refine bool_eq ?_; exact (opens_none hv hor c4).symm)
      · try simp only [Z.a, Z.b, Z.c, Z.d, Z.e, Z.f, Z.g, Z.h, Z.i, Z.j, Z.k, Z.l, Z.m] at h3
        have ho := h3
        refine RO.opgv (v' := .ref 0 3) rfl (opv_field_ref rfl rfl) rfl ?_
        refine RO.opgv (v' := .d (.list (encs _))) rfl (opv_load_ref rfl rfl rfl) rfl ?_
        refine RO.opgv (v' := .d (.ptr _)) rfl (opv_index_terms (i := 1) rfl rfl hk1) rfl ?_
        refine RO.opgv (v' := .d (enc _)) rfl (opv_load_pterm rfl) rfl ?_
        refine RO.opgv (v' := .d (.bool _)) rfl (opv_callF (ih t.kids[1] (by have := sizes_mem (List.getElem_mem (l := t.kids) (n := 1) hk1); omega) (by have := bulks_mem (List.getElem_mem (l := t.kids) (n := 1) hk1); omega)) rfl rfl rfl trivial) rfl ?_
        refine RO.opv (v' := .d (.bool _)) (opv_pick rfl rfl) rfl ?_
        refine RO.opv (v' := .d (.bool _)) (opv_assign rfl) rfl ?_
        refine RO.nil ?_
        refine Runs.ret ?_
        refine thenQ_ret ?_
        refine EndQ.tmp (.inr rfl) rfl rfl 0 (by exact Nat.le_refl _) (by exact Nat.zero_le _) trivial ⟨?_, rfl⟩
        first
          | (refine bool_eq ?_; exact (opens_isv hv).symm)
          | (refine bool_eq ?_; rw [opens_two hor hk0 hk1 hlen, ho]; first | done | rfl)
          | (refine bool_eq ?_; rw [opens_not c4 hk0]; first | done | rfl)
          | (refine bool_eq ?_; exact (opens_none hv hor c4).symm)
    · try simp only [Z.a, Z.b, Z.c, Z.d, Z.e, Z.f, Z.g, Z.h, Z.i, Z.j, Z.k, Z.l, Z.m] at h2
      have c1 : t.isN bComma 2 = false := h2
      refine RO.opgv (v' := .d (enc _)) rfl (opv_load_term rfl rfl rfl) rfl ?_
      refine RO.opgv (v' := .d (.bool _)) rfl (opv_callF (ris_fn t _ _) rfl rfl rfl trivial) rfl ?_
      refine RO.opv (v' := .d (.bool _)) (opv_pick rfl rfl) rfl ?_
      refine RO.opc (opv_move rfl) (fun h4 => ?_) (fun h4 => ?_)
      · try simp only [Z.a, Z.b, Z.c, Z.d, Z.e, Z.f, Z.g, Z.h, Z.i, Z.j, Z.k, Z.l, Z.m] at h4
        have c2 : t.isN bSemi 2 = true := h4
        have hor : (t.isN bComma 2 || t.isN bSemi 2 || t.isN bArrow 2) = true := by rw [c1, c2]; rfl
        have hlen : t.kids.length = 2 := isN_len (n := 2) c2
        have hk0 : 0 < t.kids.length := by omega
        have hk1 : 1 < t.kids.length := by omega
        refine RO.off rfl ?_
        refine RO.off rfl ?_
        refine RO.opv (v' := .d (.bool true)) (opv_pick rfl rfl) rfl ?_
        refine RO.nil ?_
        refine Runs.condT rfl ?_
        refine Runs.has [(1, .ref 0 0), (2, .d (.bool false))] ⟨rfl, rfl, trivial⟩ ?_
        refine Runs.rseq ?_
        refine RO.opv (v' := .ref 0 3) (opv_field_ref rfl rfl) rfl ?_
        refine RO.opv (v' := .d (.list (encs _))) (opv_load_ref rfl rfl rfl) rfl ?_
        refine RO.opv (v' := .d (.ptr _)) (opv_index_terms (i := 0) rfl rfl hk0) rfl ?_
        refine RO.opv (v' := .d (enc _)) (opv_load_pterm rfl) rfl ?_
        refine RO.opv (v' := .d (.bool _)) (opv_callF (ih t.kids[0] (by have := sizes_mem (List.getElem_mem (l := t.kids) (n := 0) hk0); omega) (by have := bulks_mem (List.getElem_mem (l := t.kids) (n := 0) hk0); omega)) rfl rfl rfl trivial) rfl ?_
        refine RO.opc (opv_move rfl) (fun h5 => ?_) (fun h5 => ?_)
        · try simp only [Z.a, Z.b, Z.c, Z.d, Z.e, Z.f, Z.g, Z.h, Z.i, Z.j, Z.k, Z.l, Z.m] at h5
          have ho := h5
          refine RO.off rfl ?_
          refine RO.off rfl ?_
          refine RO.off rfl ?_
          refine RO.off rfl ?_
          refine RO.off rfl ?_
          refine RO.opv (v' := .d (.bool true)) (opv_pick rfl rfl) rfl ?_
          refine RO.opv (v' := .d (.bool true)) (opv_assign rfl) rfl ?_
          refine RO.nil ?_
          refine Runs.ret ?_
          refine thenQ_ret ?_
          refine EndQ.tmp (.inr rfl) rfl rfl 0 (by exact Nat.le_refl _) (by exact Nat.zero_le _) trivial ⟨?_, rfl⟩
          first
            | (refine bool_eq ?_; exact (opens_isv hv).symm)
            | (refine bool_eq ?_; rw [opens_two hor hk0 hk1 hlen, ho]; first | done | rfl)
            | (refine bool_eq ?_; rw [opens_not c4 hk0]; first | done | rfl)
            | (refine bool_eq ?_; exact (opens_none hv hor c4).symm)
        · try simp only [Z.a, Z.b, Z.c, Z.d, Z.e, Z.f, Z.g, Z.h, Z.i, Z.j, Z.k, Z.l, Z.m] at h5
          have ho := h5
          refine RO.opgv (v' := .ref 0 3) rfl (opv_field_ref rfl rfl) rfl ?_
          refine RO.opgv (v' := .d (.list (encs _))) rfl (opv_load_ref rfl rfl rfl) rfl ?_
          refine RO.opgv (v' := .d (.ptr _)) rfl (opv_index_terms (i := 1) rfl rfl hk1) rfl ?_
          refine RO.opgv (v' := .d (enc _)) rfl (opv_load_pterm rfl) rfl ?_
          refine RO.opgv (v' := .d (.bool _)) rfl (opv_callF (ih t.kids[1] (by have := sizes_mem (List.getElem_mem (l := t.kids) (n := 1) hk1); omega) (by have := bulks_mem (List.getElem_mem (l := t.kids) (n := 1) hk1); omega)) rfl rfl rfl trivial) rfl ?_
          refine RO.opv (v' := .d (.bool _)) (opv_pick rfl rfl) rfl ?_
          refine RO.opv (v' := .d (.bool _)) (opv_assign rfl) rfl ?_
          refine RO.nil ?_
          refine Runs.ret ?_
          refine thenQ_ret ?_
          refine EndQ.tmp (.inr rfl) rfl rfl 0 (by exact Nat.le_refl _) (by exact Nat.zero_le _) trivial ⟨?_, rfl⟩
          first
            | (refine bool_eq ?_; exact (opens_isv hv).symm)
            | (refine bool_eq ?_; rw [opens_two hor hk0 hk1 hlen, ho]; first | done | rfl)
            | (refine bool_eq ?_; rw [opens_not c4 hk0]; first | done | rfl)
            | (refine bool_eq ?_; exact (opens_none hv hor c4).symm)
      · try simp only [Z.a, Z.b, Z.c, Z.d, Z.e, Z.f, Z.g, Z.h, Z.i, Z.j, Z.k, Z.l, Z.m] at h4
        have c2 : t.isN bSemi 2 = false := h4
        refine RO.opgv (v' := .d (enc _)) rfl (opv_load_term rfl rfl rfl) rfl ?_
        refine RO.opgv (v' := .d (.bool _)) rfl (opv_callF (ris_fn t _ _) rfl rfl rfl trivial) rfl ?_
        refine RO.opc (opv_pick rfl rfl) (fun h6 => ?_) (fun h6 => ?_)
        · try simp only [Z.a, Z.b, Z.c, Z.d, Z.e, Z.f, Z.g, Z.h, Z.i, Z.j, Z.k, Z.l, Z.m] at h6
          have c3 : t.isN bArrow 2 = true := h6
          have hor : (t.isN bComma 2 || t.isN bSemi 2 || t.isN bArrow 2) = true := by rw [c1, c2, c3]; rfl
          have hlen : t.kids.length = 2 := isN_len (n := 2) c3
          have hk0 : 0 < t.kids.length := by omega
          have hk1 : 1 < t.kids.length := by omega
          refine RO.nil ?_
          refine Runs.condT rfl ?_
          refine Runs.has [(1, .ref 0 0), (2, .d (.bool false))] ⟨rfl, rfl, trivial⟩ ?_
          refine Runs.rseq ?_
          refine RO.opv (v' := .ref 0 3) (opv_field_ref rfl rfl) rfl ?_
          refine RO.opv (v' := .d (.list (encs _))) (opv_load_ref rfl rfl rfl) rfl ?_
          refine RO.opv (v' := .d (.ptr _)) (opv_index_terms (i := 0) rfl rfl hk0) rfl ?_
          refine RO.opv (v' := .d (enc _)) (opv_load_pterm rfl) rfl ?_
          refine RO.opv (v' := .d (.bool _)) (opv_callF (ih t.kids[0] (by have := sizes_mem (List.getElem_mem (l := t.kids) (n := 0) hk0); omega) (by have := bulks_mem (List.getElem_mem (l := t.kids) (n := 0) hk0); omega)) rfl rfl rfl trivial) rfl ?_
          refine RO.opc (opv_move rfl) (fun h7 => ?_) (fun h7 => ?_)
          · try simp only [Z.a, Z.b, Z.c, Z.d, Z.e, Z.f, Z.g, Z.h, Z.i, Z.j, Z.k, Z.l, Z.m] at h7
            have ho := h7
            refine RO.off rfl ?_
            refine RO.off rfl ?_
            refine RO.off rfl ?_
            refine RO.off rfl ?_
            refine RO.off rfl ?_
            refine RO.opv (v' := .d (.bool true)) (opv_pick rfl rfl) rfl ?_
            refine RO.opv (v' := .d (.bool true)) (opv_assign rfl) rfl ?_
            refine RO.nil ?_
            refine Runs.ret ?_
            refine thenQ_ret ?_
            refine EndQ.tmp (.inr rfl) rfl rfl 0 (by exact Nat.le_refl _) (by exact Nat.zero_le _) trivial ⟨?_, rfl⟩
            first
              | (refine bool_eq ?_; exact (opens_isv hv).symm)
              | (refine bool_eq ?_; rw [opens_two hor hk0 hk1 hlen, ho]; first | done | rfl)
              | (refine bool_eq ?_; rw [opens_not c4 hk0]; first | done | rfl)
              | (refine bool_eq ?_; exact (opens_none hv hor c4).symm)
          · try simp only [Z.a, Z.b, Z.c, Z.d, Z.e, Z.f, Z.g, Z.h, Z.i, Z.j, Z.k, Z.l, Z.m] at h7
            have ho := h7
            refine RO.opgv (v' := .ref 0 3) rfl (opv_field_ref rfl rfl) rfl ?_
            refine RO.opgv (v' := .d (.list (encs _))) rfl (opv_load_ref rfl rfl rfl) rfl ?_
            refine RO.opgv (v' := .d (.ptr _)) rfl (opv_index_terms (i := 1) rfl rfl hk1) rfl ?_
            refine RO.opgv (v' := .d (enc _)) rfl (opv_load_pterm rfl) rfl ?_
            refine RO.opgv (v' := .d (.bool _)) rfl (opv_callF (ih t.kids[1] (by have := sizes_mem (List.getElem_mem (l := t.kids) (n := 1) hk1); omega) (by have := bulks_mem (List.getElem_mem (l := t.kids) (n := 1) hk1); omega)) rfl rfl rfl trivial) rfl ?_
            refine RO.opv (v' := .d (.bool _)) (opv_pick rfl rfl) rfl ?_
            refine RO.opv (v' := .d (.bool _)) (opv_assign rfl) rfl ?_
            refine RO.nil ?_
            refine Runs.ret ?_
            refine thenQ_ret ?_
            refine EndQ.tmp (.inr rfl) rfl rfl 0 (by exact Nat.le_refl _) (by exact Nat.zero_le _) trivial ⟨?_, rfl⟩
            first
              | (refine bool_eq ?_; exact (opens_isv hv).symm)
              | (refine bool_eq ?_; rw [opens_two hor hk0 hk1 hlen, ho]; first | done | rfl)
              | (refine bool_eq ?_; rw [opens_not c4 hk0]; first | done | rfl)
              | (refine bool_eq ?_; exact (opens_none hv hor c4).symm)
        · try simp only [Z.a, Z.b, Z.c, Z.d, Z.e, Z.f, Z.g, Z.h, Z.i, Z.j, Z.k, Z.l, Z.m] at h6
          have c3 : t.isN bArrow 2 = false := h6
          have hor : (t.isN bComma 2 || t.isN bSemi 2 || t.isN bArrow 2) = false := by rw [c1, c2, c3]; rfl
          refine RO.nil ?_
          refine Runs.condF rfl ?_
          refine Runs.skip ?_
          refine thenQ_normal ?_
          refine Runs.has [(1, .ref 0 0), (2, .d (.bool false))] ⟨rfl, rfl, trivial⟩ ?_
          refine Runs.rseq ?_
          refine RO.opv (v' := .d (enc _)) (opv_load_term rfl rfl rfl) rfl ?_
          refine RO.opv (v' := .d (.bool _)) (opv_callF (ris_fn t _ _) rfl rfl rfl trivial) rfl ?_
          refine RO.opc (opv_move rfl) (fun h8 => ?_) (fun h8 => ?_)
          · try simp only [Z.a, Z.b, Z.c, Z.d, Z.e, Z.f, Z.g, Z.h, Z.i, Z.j, Z.k, Z.l, Z.m] at h8
            have c4 : t.isN bNot 1 = true := h8
            have hlen : t.kids.length = 1 := isN_len (n := 1) c4
            have hk0 : 0 < t.kids.length := by omega
            refine RO.opgv (v' := .ref 0 3) rfl (opv_field_ref rfl rfl) rfl ?_
            refine RO.opgv (v' := .d (.list (encs _))) rfl (opv_load_ref rfl rfl rfl) rfl ?_
            refine RO.opgv (v' := .d (.ptr _)) rfl (opv_index_terms (i := 0) rfl rfl hk0) rfl ?_
            refine RO.opgv (v' := .d (enc _)) rfl (opv_load_pterm rfl) rfl ?_
            refine RO.opgv (v' := .d (.bool _)) rfl (opv_callF (ih t.kids[0] (by have := sizes_mem (List.getElem_mem (l := t.kids) (n := 0) hk0); omega) (by have := bulks_mem (List.getElem_mem (l := t.kids) (n := 0) hk0); omega)) rfl rfl rfl trivial) rfl ?_
            refine RO.opv (v' := .d (.bool _)) (opv_pick rfl rfl) rfl ?_
            refine RO.opv (v' := .d (.bool _)) (opv_assign rfl) rfl ?_
            refine RO.nil ?_
            refine Runs.ret ?_
            refine EndQ.tmp (.inr rfl) rfl rfl 0 (by exact Nat.le_refl _) (by exact Nat.zero_le _) trivial ⟨?_, rfl⟩
            first
              | (refine bool_eq ?_; exact (opens_isv hv).symm)
              | (refine bool_eq ?_; rw [opens_two hor hk0 hk1 hlen, ho]; first | done | rfl)
              | (refine bool_eq ?_; rw [opens_not c4 hk0]; first | done | rfl)
              | (refine bool_eq ?_; exact (opens_none hv hor c4).symm)
          · try simp only [Z.a, Z.b, Z.c, Z.d, Z.e, Z.f, Z.g, Z.h, Z.i, Z.j, Z.k, Z.l, Z.m] at h8
            have c4 : t.isN bNot 1 = false := h8
            refine RO.off rfl ?_
            refine RO.off rfl ?_
            refine RO.off rfl ?_
            refine RO.off rfl ?_
            refine RO.off rfl ?_
            refine RO.opv (v' := .d (.bool false)) (opv_pick rfl rfl) rfl ?_
            refine RO.opv (v' := .d (.bool false)) (opv_assign rfl) rfl ?_
            refine RO.nil ?_
            refine Runs.ret ?_
            refine EndQ.tmp (.inr rfl) rfl rfl 0 (by exact Nat.le_refl _) (by exact Nat.zero_le _) trivial ⟨?_, rfl⟩
            first
              | (refine bool_eq ?_; exact (opens_isv hv).symm)
              | (refine bool_eq ?_; rw [opens_two hor hk0 hk1 hlen, ho]; first | done | rfl)
              | (refine bool_eq ?_; rw [opens_not c4 hk0]; first | done | rfl)
              | (refine bool_eq ?_; exact (opens_none hv hor c4).symm)
theorem ropen_fn (t : Term) (hb : t.bulk ≤ 2 ^ 30) : Fn Try.prog 48 [.d (enc t)] [] (.d (.bool t.opens)) [] := ropen_aux t.size t (Nat.le_refl _) hb
theorem rlowt_aux (M : List (List Bool)) (l : Lt) (hM : Mt M l) (b : Int) : ∀ (m : Nat) (t : Term), t.size ≤ m → t.bulk ≤ 2 ^ 30 → Fn Try.prog 49 [.d (encR M), .d (enc t), .d (.int .i64 b)] [] (.d (.bool (lowsB l b t))) [] := by
  intro m
  induction m with
  | zero => intro t h; have := t.size_kids; omega
  | succ m ih =>
  intro t hm hb
  have hS := t.size_kids
  have hU := t.bulk_kids
  have hL := bulks_len t.kids
  refine Does.run Try.func49 rfl Try.ntmps49 rfl fun K hK => ?_
  refine Runs.rseq ?_
  refine RO.opn (v' := .ref 0 0) (O' := [_]) (opv_box rfl rfl) rfl rfl ?_
  refine RO.opn (v' := .ref 1 0) (O' := [_, _]) (opv_box_term rfl) rfl rfl ?_
  refine RO.opv (v' := .d (.bool false)) (opv_assign rfl) rfl ?_
  refine RO.nil ?_
  refine Runs.has [(2, .d (.int _ _)), (3, .ref 0 0), (4, .ref 1 0), (6, .d (.bool false))] ⟨rfl, rfl, rfl, rfl, trivial⟩ ?_
  refine Runs.seq ?_
  refine Runs.rseq ?_
  refine RO.opv (v' := .d (enc _)) (opv_load_term rfl rfl rfl) rfl ?_
  refine RO.opc (opv_callF (ris_fn t _ _) rfl rfl rfl trivial) (fun h1 => ?_) (fun h1 => ?_)
  · try simp only [Z.a, Z.b, Z.c, Z.d, Z.e, Z.f, Z.g, Z.h, Z.i, Z.j, Z.k, Z.l, Z.m] at h1
    have hw : t.isN bWrite 2 = true := h1
    have hk0 : 0 < t.kids.length := by have := isN_len (n := 2) hw; omega
    refine RO.nil ?_
    refine Runs.condT rfl ?_
    refine Runs.has [(2, .d (.int _ _)), (3, .ref 0 0), (4, .ref 1 0), (6, .d (.bool false))] ⟨rfl, rfl, rfl, rfl, trivial⟩ ?_
    refine Runs.rseq ?_
    refine RO.opv (v' := .ref 1 3) (opv_field_ref rfl rfl) rfl ?_
    refine RO.opv (v' := .d (.list (encs _))) (opv_load_ref rfl rfl rfl) rfl ?_
    refine RO.opv (v' := .d (.ptr _)) (opv_index_terms (i := 0) rfl rfl hk0) rfl ?_
    refine RO.opv (v' := .d (enc _)) (opv_load_pterm rfl) rfl ?_
    refine RO.opn (v' := .ref 2 0) (O' := [_, _, _]) (opv_alloc) rfl rfl ?_
    refine RO.op0n (O' := [_, _, _]) (opv_store_term rfl rfl rfl (Nat.le_of_ble_eq_true rfl)) rfl ?_
    refine RO.nil ?_
    refine Runs.has [(2, .d (.int _ _)), (3, .ref 0 0), (4, .ref 1 0), (6, .d (.bool false)), (7, .ref 2 0)] ⟨rfl, rfl, rfl, rfl, rfl, trivial⟩ ?_
    refine Runs.seq ?_
    refine Runs.drawn (by kernel_rfl) [] [false, false, false, false, false, false, false, false, false, false, false, false, false] [false, false, false, false, false, false, false, false, false, false, false, false, false] (by decide +kernel) ?_
    refine RD.opv (v' := .ref 2 0) (opv_field_ref rfl rfl) rfl ?_
    refine RD.opv (v' := .d (.int _ _)) (opv_load_ref rfl rfl rfl) rfl ?_
    refine RD.opv (v' := .d (.bool _)) (opv_bin rfl rfl rfl) rfl ?_
    refine RD.opc (opv_move rfl) (fun h2 => ?_) (fun h2 => ?_)
    · try simp only [Z.a, Z.b, Z.c, Z.d, Z.e, Z.f, Z.g, Z.h, Z.i, Z.j, Z.k, Z.l, Z.m] at h2
      have hkd := h2
      have hlo : lowP l b t = true := by unfold lowP; rw [hw, ← kid_eq hk0, decide_eq_true h2]; rfl
      refine RD.off rfl ?_
      refine RD.off rfl ?_
      refine RD.off rfl ?_
      refine RD.off rfl ?_
      refine RD.off rfl ?_
      refine RD.off rfl ?_
      refine RD.off rfl ?_
      refine RD.off rfl ?_
      refine RD.opv (v' := .d (.bool true)) (opv_pick rfl rfl) rfl ?_
      refine RD.nil ?_
      refine thenQ_normal ?_
      refine Runs.condT rfl ?_
      refine Runs.has [(2, .d (.int _ _)), (3, .ref 0 0), (4, .ref 1 0), (6, .d (.bool false))] ⟨rfl, rfl, rfl, rfl, trivial⟩ ?_
      refine Runs.rseq ?_
      refine RO.opv (v' := .d (.bool true)) (opv_assign rfl) rfl ?_
      refine RO.nil ?_
      refine Runs.ret ?_
      refine thenQ_ret ?_
      refine EndQ.tmp (.inr rfl) rfl rfl 0 (by exact Nat.le_refl _) (by exact Nat.zero_le _) trivial ⟨?_, rfl⟩
      first
        | (refine bool_eq ?_; exact (lowsB_at hlo).symm)
        | (refine bool_eq ?_; exact (lowsB_yes hk ho).symm)
        | (refine bool_eq ?_; exact (lowsB_no hlo fun j hj => hi.2 j hj (by omega)).symm)
    · try simp only [Z.a, Z.b, Z.c, Z.d, Z.e, Z.f, Z.g, Z.h, Z.i, Z.j, Z.k, Z.l, Z.m] at h2
      have hkd : t.kids[0].kind = 2 := by omega
      refine RD.opgv (v' := .d (encR _)) rfl (opv_load_ref rfl rfl rfl) rfl ?_
      refine RD.opgv (v' := .d (.int _ _)) rfl (opv_move rfl) rfl ?_
      refine RD.opgv (v' := .d (encR _)) rfl (opv_load_ref rfl rfl rfl) rfl ?_
      refine RD.opgv (v' := .ref 2 1) rfl (opv_field_ref rfl rfl) rfl ?_
      refine RD.opgv (v' := .d (.int _ _)) rfl (opv_load_ref rfl rfl rfl) rfl ?_
      refine RD.opgv (v' := .d (.int _ _)) rfl (opv_callF (rlevel_fn M l hM _) rfl rfl rfl trivial) rfl ?_
      refine RD.opgv (v' := .d (.bool _)) rfl (opv_callF (mleq_fn M l hM _ _) rfl rfl rfl trivial) rfl ?_
      refine RD.opgv (v' := .d (.bool _)) rfl (opv_not rfl rfl) rfl ?_
      refine RD.opc (opv_pick rfl rfl) (fun h3 => ?_) (fun h3 => ?_)
      · try simp only [Z.a, Z.b, Z.c, Z.d, Z.e, Z.f, Z.g, Z.h, Z.i, Z.j, Z.k, Z.l, Z.m] at h3
        have hlo : lowP l b t = true := by unfold lowP; rw [hw, ← kid_eq hk0, h3, Bool.or_comm]; rfl
        refine RD.nil ?_
        refine thenQ_normal ?_
        refine Runs.condT rfl ?_
        refine Runs.has [(2, .d (.int _ _)), (3, .ref 0 0), (4, .ref 1 0), (6, .d (.bool false))] ⟨rfl, rfl, rfl, rfl, trivial⟩ ?_
        refine Runs.rseq ?_
        refine RO.opv (v' := .d (.bool true)) (opv_assign rfl) rfl ?_
        refine RO.nil ?_
        refine Runs.ret ?_
        refine thenQ_ret ?_
        refine EndQ.tmp (.inr rfl) rfl rfl 0 (by exact Nat.le_refl _) (by exact Nat.zero_le _) trivial ⟨?_, rfl⟩
        first
          | (refine bool_eq ?_; exact (lowsB_at hlo).symm)
          | (refine bool_eq ?_; exact (lowsB_yes hk ho).symm)
          | (refine bool_eq ?_; exact (lowsB_no hlo fun j hj => hi.2 j hj (by omega)).symm)
      · try simp only [Z.a, Z.b, Z.c, Z.d, Z.e, Z.f, Z.g, Z.h, Z.i, Z.j, Z.k, Z.l, Z.m] at h3
        have hlo : lowP l b t = false := by unfold lowP; rw [hw, ← kid_eq hk0, h3, decide_eq_false (fun e => e hkd)]; rfl
        refine RD.nil ?_
        refine thenQ_normal ?_
        refine Runs.condF rfl ?_
        refine Runs.skip ?_
        refine thenQ_normal ?_
        refine Runs.has [(2, .d (.int _ _)), (3, .ref 0 0), (4, .ref 1 0), (6, .d (.bool false))] ⟨rfl, rfl, rfl, rfl, trivial⟩ ?_
        refine Runs.seq ?_
        refine Runs.rseq ?_
        refine RO.opv (v' := .d (.int _ _)) (opv_assign rfl) rfl ?_
        refine RO.nil ?_
        refine Runs.block ?_
        refine Runs.loopC (X := Nat) (fun i => i ≤ t.kids.length ∧ ∀ (j : Nat) (hj : j < t.kids.length), j < i → lowsB l b t.kids[j] = false) (fun i => t.kids.length - i) [(2, .d (.int _ _)), (3, .ref 0 0), (4, .ref 1 0)] (fun i => [(8, .d (.int .i64 (i : Nat)))]) [_, _, _] (fun i => []) (0) ⟨rfl, rfl, rfl, trivial⟩ ⟨rfl, trivial⟩ rfl ⟨Nat.zero_le _, fun j _ h => absurd h (Nat.not_lt_zero _)⟩ fun i hi => ?_
        refine Runs.seq ?_
        refine Runs.rseq ?_
        refine RO.opv (v' := .d (.int _ _)) (opv_move rfl) rfl ?_
        refine RO.opv (v' := .ref 1 3) (opv_field_ref rfl rfl) rfl ?_
        refine RO.opv (v' := .d (.list (encs _))) (opv_load_ref rfl rfl rfl) rfl ?_
        refine RO.opv (v' := .d (.int _ _)) (opv_len_terms rfl) rfl ?_
        refine RO.opc (opv_bin rfl rfl rfl) (fun h4 => ?_) (fun h4 => ?_)
        · try simp only [Z.a, Z.b, Z.c, Z.d, Z.e, Z.f, Z.g, Z.h, Z.i, Z.j, Z.k, Z.l, Z.m] at h4
          have hk : i < t.kids.length := by omega
          refine RO.nil ?_
          refine Runs.condT rfl ?_
          refine Runs.skip ?_
          refine thenQ_normal ?_
          refine Runs.has [(2, .d (.int _ _)), (3, .ref 0 0), (4, .ref 1 0), (8, .d (.int _ _))] ⟨rfl, rfl, rfl, rfl, trivial⟩ ?_
          refine Runs.seq ?_
          refine Runs.block ?_
          refine Runs.seq ?_
          refine Runs.drawn (by kernel_rfl) [] [false, false, false, false, false, false, false, false] [false, false, false, false, false, false, false, false] (by decide +kernel) ?_
          refine RD.opv (v' := .d (encR _)) (opv_load_ref rfl rfl rfl) rfl ?_
          refine RD.opv (v' := .ref 1 3) (opv_field_ref rfl rfl) rfl ?_
          refine RD.opv (v' := .d (.list (encs _))) (opv_load_ref rfl rfl rfl) rfl ?_
          refine RD.opv (v' := .d (.int _ _)) (opv_move rfl) rfl ?_
          refine RD.opv (v' := .d (.ptr _)) (opv_index_terms rfl rfl hk) rfl ?_
          refine RD.opv (v' := .d (enc _)) (opv_load_pterm rfl) rfl ?_
          refine RD.opv (v' := .d (.int _ _)) (opv_move rfl) rfl ?_
          refine RD.opc (opv_callF (ih t.kids[i] (by have := sizes_mem (List.getElem_mem (l := t.kids) (n := i) hk); omega) (by have := bulks_mem (List.getElem_mem (l := t.kids) (n := i) hk); omega)) rfl rfl rfl trivial) (fun h5 => ?_) (fun h5 => ?_)
          · try simp only [Z.a, Z.b, Z.c, Z.d, Z.e, Z.f, Z.g, Z.h, Z.i, Z.j, Z.k, Z.l, Z.m] at h5
            have ho := h5
            refine RD.nil ?_
            refine thenQ_normal ?_
            refine Runs.condT rfl ?_
            refine Runs.has [(2, .d (.int _ _)), (3, .ref 0 0), (4, .ref 1 0), (8, .d (.int _ _))] ⟨rfl, rfl, rfl, rfl, trivial⟩ ?_
            refine Runs.rseq ?_
            refine RO.opv (v' := .d (.bool true)) (opv_assign rfl) rfl ?_
            refine RO.nil ?_
            refine Runs.ret ?_
            refine blockQ_ret ?_
            refine thenQ_ret ?_
            refine thenQ_ret ?_
            refine blockQ_ret ?_
            refine thenQ_ret ?_
            refine EndQ.tmp (.inr rfl) rfl rfl 0 (by exact Nat.le_refl _) (by exact Nat.zero_le _) trivial ⟨?_, rfl⟩
            first
              | (refine bool_eq ?_; exact (lowsB_at hlo).symm)
              | (refine bool_eq ?_; exact (lowsB_yes hk ho).symm)
              | (refine bool_eq ?_; exact (lowsB_no hlo fun j hj => hi.2 j hj (by omega)).symm)
          · try simp only [Z.a, Z.b, Z.c, Z.d, Z.e, Z.f, Z.g, Z.h, Z.i, Z.j, Z.k, Z.l, Z.m] at h5
            have ho := h5
            refine RD.nil ?_
            refine thenQ_normal ?_
            refine Runs.condF rfl ?_
            refine Runs.skip ?_
            refine blockQ_normal ?_
            refine thenQ_normal ?_
            refine Runs.has [(2, .d (.int _ _)), (3, .ref 0 0), (4, .ref 1 0), (8, .d (.int _ _))] ⟨rfl, rfl, rfl, rfl, trivial⟩ ?_
            refine Runs.region ?_
            refine RO.opv (v' := .d (.int _ _)) (opv_move rfl) rfl ?_
            refine RO.opv (v' := .d (.int _ _)) (opv_bin rfl rfl rfl) rfl ?_
            refine RO.opv (v' := .d (.int _ _)) (opv_assign rfl) rfl ?_
            refine RO.nil ?_
            refine thenQ_normal ?_
            refine ⟨i + 1, 3, (by rw [hK]; exact Nat.le_of_ble_eq_true rfl), ⟨rfl, rfl, rfl, trivial⟩, ⟨?_, trivial⟩, rfl, ?_, ?_⟩
            · refine int_eq ?_; rw [wrap64 (by omega) (by omega)]; omega
            · refine ⟨by omega, fun j hj h => ?_⟩
              rcases Nat.lt_succ_iff_lt_or_eq.1 h with h' | h'
              · exact hi.2 j hj h'
              · subst h'; exact ho
            · omega
        · try simp only [Z.a, Z.b, Z.c, Z.d, Z.e, Z.f, Z.g, Z.h, Z.i, Z.j, Z.k, Z.l, Z.m] at h4
          have hk : i = t.kids.length := by omega
          refine RO.nil ?_
          refine Runs.condF rfl ?_
          refine Runs.exit ?_
          refine thenQ_exit ?_
          refine thenQ_exit ?_
          refine blockQ_here ?_
          refine thenQ_normal ?_
          refine Runs.has [] trivial ?_
          refine Runs.rseq ?_
          refine RO.opv (v' := .d (.bool false)) (opv_assign rfl) rfl ?_
          refine RO.nil ?_
          refine Runs.ret ?_
          refine EndQ.tmp (.inr rfl) rfl rfl 0 (by exact Nat.le_refl _) (by exact Nat.zero_le _) trivial ⟨?_, rfl⟩
          first
            | (refine bool_eq ?_; exact (lowsB_at hlo).symm)
            | (refine bool_eq ?_; exact (lowsB_yes hk ho).symm)
            | (refine bool_eq ?_; exact (lowsB_no hlo fun j hj => hi.2 j hj (by omega)).symm)
  · try simp only [Z.a, Z.b, Z.c, Z.d, Z.e, Z.f, Z.g, Z.h, Z.i, Z.j, Z.k, Z.l, Z.m] at h1
    have hw : t.isN bWrite 2 = false := h1
    have hlo : lowP l b t = false := by unfold lowP; rw [hw]; rfl
    refine RO.nil ?_
    refine Runs.condF rfl ?_
    refine Runs.skip ?_
    refine thenQ_normal ?_
    refine Runs.has [(2, .d (.int _ _)), (3, .ref 0 0), (4, .ref 1 0), (6, .d (.bool false))] ⟨rfl, rfl, rfl, rfl, trivial⟩ ?_
    refine Runs.seq ?_
    refine Runs.rseq ?_
    refine RO.opv (v' := .d (.int _ _)) (opv_assign rfl) rfl ?_
    refine RO.nil ?_
    refine Runs.block ?_
    refine Runs.loopC (X := Nat) (fun i => i ≤ t.kids.length ∧ ∀ (j : Nat) (hj : j < t.kids.length), j < i → lowsB l b t.kids[j] = false) (fun i => t.kids.length - i) [(2, .d (.int _ _)), (3, .ref 0 0), (4, .ref 1 0)] (fun i => [(8, .d (.int .i64 (i : Nat)))]) [_, _] (fun i => []) (0) ⟨rfl, rfl, rfl, trivial⟩ ⟨rfl, trivial⟩ rfl ⟨Nat.zero_le _, fun j _ h => absurd h (Nat.not_lt_zero _)⟩ fun i hi => ?_
    refine Runs.seq ?_
    refine Runs.rseq ?_
    refine RO.opv (v' := .d (.int _ _)) (opv_move rfl) rfl ?_
    refine RO.opv (v' := .ref 1 3) (opv_field_ref rfl rfl) rfl ?_
    refine RO.opv (v' := .d (.list (encs _))) (opv_load_ref rfl rfl rfl) rfl ?_
    refine RO.opv (v' := .d (.int _ _)) (opv_len_terms rfl) rfl ?_
    refine RO.opc (opv_bin rfl rfl rfl) (fun h6 => ?_) (fun h6 => ?_)
    · try simp only [Z.a, Z.b, Z.c, Z.d, Z.e, Z.f, Z.g, Z.h, Z.i, Z.j, Z.k, Z.l, Z.m] at h6
      have hk : i < t.kids.length := by omega
      refine RO.nil ?_
      refine Runs.condT rfl ?_
      refine Runs.skip ?_
      refine thenQ_normal ?_
      refine Runs.has [(2, .d (.int _ _)), (3, .ref 0 0), (4, .ref 1 0), (8, .d (.int _ _))] ⟨rfl, rfl, rfl, rfl, trivial⟩ ?_
      refine Runs.seq ?_
      refine Runs.block ?_
      refine Runs.seq ?_
      refine Runs.drawn (by kernel_rfl) [] [false, false, false, false, false, false, false, false] [false, false, false, false, false, false, false, false] (by decide +kernel) ?_
      refine RD.opv (v' := .d (encR _)) (opv_load_ref rfl rfl rfl) rfl ?_
      refine RD.opv (v' := .ref 1 3) (opv_field_ref rfl rfl) rfl ?_
      refine RD.opv (v' := .d (.list (encs _))) (opv_load_ref rfl rfl rfl) rfl ?_
      refine RD.opv (v' := .d (.int _ _)) (opv_move rfl) rfl ?_
      refine RD.opv (v' := .d (.ptr _)) (opv_index_terms rfl rfl hk) rfl ?_
      refine RD.opv (v' := .d (enc _)) (opv_load_pterm rfl) rfl ?_
      refine RD.opv (v' := .d (.int _ _)) (opv_move rfl) rfl ?_
      refine RD.opc (opv_callF (ih t.kids[i] (by have := sizes_mem (List.getElem_mem (l := t.kids) (n := i) hk); omega) (by have := bulks_mem (List.getElem_mem (l := t.kids) (n := i) hk); omega)) rfl rfl rfl trivial) (fun h7 => ?_) (fun h7 => ?_)
      · try simp only [Z.a, Z.b, Z.c, Z.d, Z.e, Z.f, Z.g, Z.h, Z.i, Z.j, Z.k, Z.l, Z.m] at h7
        have ho := h7
        refine RD.nil ?_
        refine thenQ_normal ?_
        refine Runs.condT rfl ?_
        refine Runs.has [(2, .d (.int _ _)), (3, .ref 0 0), (4, .ref 1 0), (8, .d (.int _ _))] ⟨rfl, rfl, rfl, rfl, trivial⟩ ?_
        refine Runs.rseq ?_
        refine RO.opv (v' := .d (.bool true)) (opv_assign rfl) rfl ?_
        refine RO.nil ?_
        refine Runs.ret ?_
        refine blockQ_ret ?_
        refine thenQ_ret ?_
        refine thenQ_ret ?_
        refine blockQ_ret ?_
        refine thenQ_ret ?_
        refine EndQ.tmp (.inr rfl) rfl rfl 0 (by exact Nat.le_refl _) (by exact Nat.zero_le _) trivial ⟨?_, rfl⟩
        first
          | (refine bool_eq ?_; exact (lowsB_at hlo).symm)
          | (refine bool_eq ?_; exact (lowsB_yes hk ho).symm)
          | (refine bool_eq ?_; exact (lowsB_no hlo fun j hj => hi.2 j hj (by omega)).symm)
      · try simp only [Z.a, Z.b, Z.c, Z.d, Z.e, Z.f, Z.g, Z.h, Z.i, Z.j, Z.k, Z.l, Z.m] at h7
        have ho := h7
        refine RD.nil ?_
        refine thenQ_normal ?_
        refine Runs.condF rfl ?_
        refine Runs.skip ?_
        refine blockQ_normal ?_
        refine thenQ_normal ?_
        refine Runs.has [(2, .d (.int _ _)), (3, .ref 0 0), (4, .ref 1 0), (8, .d (.int _ _))] ⟨rfl, rfl, rfl, rfl, trivial⟩ ?_
        refine Runs.region ?_
        refine RO.opv (v' := .d (.int _ _)) (opv_move rfl) rfl ?_
        refine RO.opv (v' := .d (.int _ _)) (opv_bin rfl rfl rfl) rfl ?_
        refine RO.opv (v' := .d (.int _ _)) (opv_assign rfl) rfl ?_
        refine RO.nil ?_
        refine thenQ_normal ?_
        refine ⟨i + 1, 2, (by rw [hK]; exact Nat.le_of_ble_eq_true rfl), ⟨rfl, rfl, rfl, trivial⟩, ⟨?_, trivial⟩, rfl, ?_, ?_⟩
        · refine int_eq ?_; rw [wrap64 (by omega) (by omega)]; omega
        · refine ⟨by omega, fun j hj h => ?_⟩
          rcases Nat.lt_succ_iff_lt_or_eq.1 h with h' | h'
          · exact hi.2 j hj h'
          · subst h'; exact ho
        · omega
    · try simp only [Z.a, Z.b, Z.c, Z.d, Z.e, Z.f, Z.g, Z.h, Z.i, Z.j, Z.k, Z.l, Z.m] at h6
      have hk : i = t.kids.length := by omega
      refine RO.nil ?_
      refine Runs.condF rfl ?_
      refine Runs.exit ?_
      refine thenQ_exit ?_
      refine thenQ_exit ?_
      refine blockQ_here ?_
      refine thenQ_normal ?_
      refine Runs.has [] trivial ?_
      refine Runs.rseq ?_
      refine RO.opv (v' := .d (.bool false)) (opv_assign rfl) rfl ?_
      refine RO.nil ?_
      refine Runs.ret ?_
      refine EndQ.tmp (.inr rfl) rfl rfl 0 (by exact Nat.le_refl _) (by exact Nat.zero_le _) trivial ⟨?_, rfl⟩
      first
        | (refine bool_eq ?_; exact (lowsB_at hlo).symm)
        | (refine bool_eq ?_; exact (lowsB_yes hk ho).symm)
        | (refine bool_eq ?_; exact (lowsB_no hlo fun j hj => hi.2 j hj (by omega)).symm)
theorem rlowt_fn (M : List (List Bool)) (l : Lt) (hM : Mt M l) (t : Term) (b : Int) (hb : t.bulk ≤ 2 ^ 30) : Fn Try.prog 49 [.d (encR M), .d (enc t), .d (.int .i64 b)] [] (.d (.bool (lowsB l b t))) [] := rlowt_aux M l hM b t.size t (Nat.le_refl _) hb
theorem raccept_fn (M : List (List Bool)) (l : Lt) (hM : Mt M l) (cs : List Cl) (gs : List Term) (lv : Int) (hn0 : ¬ l.n = 0) (htop : rtop l cs = topB l cs) (hc : cs.length ≤ 2 ^ 20) (hs : ∀ c ∈ cs, c.small (2 ^ 30)) (hg : bulks gs ≤ 2 ^ 28) : Fn Try.prog 16 [.d (encR M), .d (.list (encCls cs)), .d (.list (encs gs)), .d (.int .i64 lv)] [] (.tup [.d (.bool (acceptB l (some cs) gs lv).1), .d (.str (acceptB l (some cs) gs lv).2)]) [] := by
  have hMl := hM.sq.1
  have hLg := bulks_len gs
  have hTl := textsC_len cs
  have hTL : (textsC cs ++ gs).length = 2 * cs.length + gs.length := by rw [List.length_append, hTl]
  have hT : ∀ t ∈ (textsC cs ++ gs), t.bulk ≤ 2 ^ 30 := fun t ht => by
    rcases List.mem_append.1 ht with ht | ht
    · obtain ⟨c, hc', h | h⟩ := textsC_mem.1 ht
      · rw [h]; exact (hs c hc').1
      · rw [h]; exact (hs c hc').2
    · have := bulks_mem ht; omega
  refine Does.run Try.func16 rfl Try.ntmps16 rfl fun K hK => ?_
  refine Runs.rseq ?_
  refine RO.opn (v' := .ref 0 0) (O' := [_]) (opv_box rfl rfl) rfl rfl ?_
  refine RO.opv (v' := .d (.bool false)) (opv_assign rfl) rfl ?_
  refine RO.opv (v' := .d (.str _)) (opv_assign rfl) rfl ?_
  refine RO.nil ?_
  refine Runs.has [(1, .d (.list (encCls _))), (2, .d (.list (encs _))), (3, .d (.int _ _)), (4, .ref 0 0), (8, .d (.bool false)), (9, .d (.str _))] ⟨rfl, rfl, rfl, rfl, rfl, rfl, trivial⟩ ?_
  refine Runs.seq ?_
  refine Runs.rseq ?_
  refine RO.opv (v' := .ref 0 0) (opv_field_ref rfl rfl) rfl ?_
  refine RO.opv (v' := .d (.list (rowsD _))) (opv_load_ref rfl rfl rfl) rfl ?_
  refine RO.opv (v' := .d (.int _ _)) (opv_len_rows rfl) rfl ?_
  refine RO.opc (opv_bin rfl rfl rfl) (fun h1 => ?_) (fun h1 => ?_)
  · try simp only [Z.a, Z.b, Z.c, Z.d, Z.e, Z.f, Z.g, Z.h, Z.i, Z.j, Z.k, Z.l, Z.m] at h1
    have hn1 : l.n = 1 := by omega
    refine RO.nil ?_
    refine Runs.condT rfl ?_
    refine Runs.has [(1, .d (.list (encCls _))), (2, .d (.list (encs _))), (3, .d (.int _ _)), (4, .ref 0 0), (8, .d (.bool false)), (9, .d (.str _))] ⟨rfl, rfl, rfl, rfl, rfl, rfl, trivial⟩ ?_
    refine Runs.rseq ?_
    refine RO.opv (v' := .d (.bool true)) (opv_assign rfl) rfl ?_
    refine RO.opv (v' := .d (.str _)) (opv_assign rfl) rfl ?_
    refine RO.nil ?_
    refine Runs.ret ?_
    refine thenQ_ret ?_
    refine EndQ.tmps2 (.inr rfl) rfl rfl rfl 0 (by exact Nat.le_refl _) (by exact Nat.zero_le _) ⟨trivial, trivial, trivial⟩ ⟨?_, rfl⟩
    first
      | (rw [accept_one hn1]; rfl)
      | (rw [accept_some hn0 hn1 (show (l.join (l.lev lv) (rtop l cs)) = l.join (l.lev lv) (topB l cs) by rw [htop])]; rw [judge_stop hk3 hi.2 (reason_1 hlv e1) (by decide +kernel)]; try rfl)
      | (rw [accept_some hn0 hn1 (show (l.join (l.lev lv) (rtop l cs)) = l.join (l.lev lv) (topB l cs) by rw [htop])]; rw [judge_stop hk3 hi.2 (reason_2 hlv e1 e2) (by decide +kernel)]; try rfl)
      | (rw [accept_some hn0 hn1 (show (l.join (l.lev lv) (rtop l cs)) = l.join (l.lev lv) (topB l cs) by rw [htop])]; rw [judge_stop hk3 hi.2 (reason_3 hlv e1 e2 e3) (by decide +kernel)]; try rfl)
      | (rw [accept_some hn0 hn1 (show (l.join (l.lev lv) (rtop l cs)) = l.join (l.lev lv) (topB l cs) by rw [htop])]; rw [judge_stop hk3 hi.2 (reason_4 hlv e1 e2 e3 e4) (by decide +kernel)]; try rfl)
      | (rw [accept_some hn0 hn1 (show (l.join (l.lev lv) (rtop l cs)) = l.join (l.lev lv) (topB l cs) by rw [htop])]; rw [judge_stop hk3 hi.2 (reason_6 hlv e3) (by decide +kernel)]; try rfl)
      | (rw [accept_some hn0 hn1 (show (l.join (l.lev lv) (rtop l cs)) = l.join (l.lev lv) (topB l cs) by rw [htop])]; rw [judge_ok (by have h0 := hi.2; rwa [hk3, List.take_length] at h0)]; try rfl)
  · try simp only [Z.a, Z.b, Z.c, Z.d, Z.e, Z.f, Z.g, Z.h, Z.i, Z.j, Z.k, Z.l, Z.m] at h1
    have hn1 : ¬ l.n = 1 := by omega
    refine RO.nil ?_
    refine Runs.condF rfl ?_
    refine Runs.skip ?_
    refine thenQ_normal ?_
    refine Runs.has [(1, .d (.list (encCls _))), (2, .d (.list (encs _))), (3, .d (.int _ _)), (4, .ref 0 0), (8, .d (.bool false)), (9, .d (.str _))] ⟨rfl, rfl, rfl, rfl, rfl, rfl, trivial⟩ ?_
    refine Runs.seq ?_
    refine Runs.drawn (by kernel_rfl) [] [false, false, false, false, false, false, false, false, false] [false, false, false, false, false, false, false, false, false] (by decide +kernel) ?_
    refine RD.opv (v' := .d (encR _)) (opv_load_ref rfl rfl rfl) rfl ?_
    refine RD.opv (v' := .d (encR _)) (opv_load_ref rfl rfl rfl) rfl ?_
    refine RD.opv (v' := .d (.int _ _)) (opv_move rfl) rfl ?_
    refine RD.opv (v' := .d (.int _ _)) (opv_callF (rlevel_fn M l hM lv) rfl rfl rfl trivial) rfl ?_
    refine RD.opv (v' := .d (encR _)) (opv_load_ref rfl rfl rfl) rfl ?_
    refine RD.opv (v' := .d (.list (encCls _))) (opv_move rfl) rfl ?_
    refine RD.opv (v' := .d (.int _ _)) (opv_callF (rtop_fn M l hM cs hc hs) rfl rfl rfl trivial) rfl ?_
    refine RD.opv (v' := .d (.int _ _)) (opv_callF (mjoin_fn M l hM _ _) rfl rfl rfl trivial) rfl ?_
    refine RD.opv (v' := .d (.int _ _)) (opv_assign rfl) rfl ?_
    refine RD.nil ?_
    refine thenQ_normal ?_
    refine Runs.has [(1, .d (.list (encCls _))), (2, .d (.list (encs _))), (4, .ref 0 0), (8, .d (.bool false)), (9, .d (.str _)), (10, .d (.int _ _))] ⟨rfl, rfl, rfl, rfl, rfl, rfl, trivial⟩ ?_
    refine Runs.rseq ?_
    refine RO.opv (v' := .nil0) (opv_assign rfl) rfl ?_
    refine RO.nil ?_
    refine Runs.seq ?_
    refine Runs.adopt 11 47 4 rfl ?_
    refine Runs.rseq ?_
    refine RO.opv (v' := .d (.int _ _)) (opv_assign rfl) rfl ?_
    refine RO.nil ?_
    refine Runs.block ?_
    refine Runs.loopC (X := Nat) (fun i => i ≤ cs.length) (fun i => cs.length - i) [(1, .d (.list (encCls _))), (2, .d (.list (encs _))), (4, .ref 0 0), (8, .d (.bool false)), (9, .d (.str _)), (10, .d (.int _ _))] (fun i => [(11, .own 1 (1 + i)), (12, .d (.int .i64 (i : Nat)))]) [_] (fun i => [.buf 47 4 (encs (textsC (cs.take i))) (1 + i)]) (0) ⟨rfl, rfl, rfl, rfl, rfl, rfl, trivial⟩ ⟨rfl, rfl, trivial⟩ rfl (by omega) fun i hi => ?_
    refine Runs.seq ?_
    refine Runs.rseq ?_
    refine RO.opv (v' := .d (.int _ _)) (opv_move rfl) rfl ?_
    refine RO.opv (v' := .d (.list (encCls _))) (opv_move rfl) rfl ?_
    refine RO.opv (v' := .d (.int _ _)) (opv_len_cls rfl) rfl ?_
    refine RO.opc (opv_bin rfl rfl rfl) (fun h2 => ?_) (fun h2 => ?_)
    · try simp only [Z.a, Z.b, Z.c, Z.d, Z.e, Z.f, Z.g, Z.h, Z.i, Z.j, Z.k, Z.l, Z.m] at h2
      have hk : i < cs.length := by omega
      refine RO.nil ?_
      refine Runs.condT rfl ?_
      refine Runs.skip ?_
      refine thenQ_normal ?_
      refine Runs.has [(1, .d (.list (encCls _))), (2, .d (.list (encs _))), (4, .ref 0 0), (8, .d (.bool false)), (9, .d (.str _)), (10, .d (.int _ _)), (11, .own 1 _), (12, .d (.int _ _))] ⟨rfl, rfl, rfl, rfl, rfl, rfl, rfl, rfl, trivial⟩ ?_
      refine Runs.seq ?_
      refine Runs.block ?_
      refine Runs.drawn (by kernel_rfl) [] [false, false, false, false, false, false, false, false, false, false, false, false, false, false] [false, false, false, false, false, false, false, false, false, false, false, false, true, false] (by decide +kernel) ?_
      refine RD.opv (v' := .own 1 _) (opv_move rfl) rfl ?_
      refine RD.opv (v' := .d (.list (encCls _))) (opv_move rfl) rfl ?_
      refine RD.opv (v' := .d (.int _ _)) (opv_move rfl) rfl ?_
      refine RD.opv (v' := .d (.ptr _)) (opv_index_cls rfl rfl hk) rfl ?_
      refine RD.opv (v' := .d (.ptr _)) (opv_field_ptr rfl) rfl ?_
      refine RD.opv (v' := .d (enc _)) (opv_load_pt rfl rfl) rfl ?_
      refine RD.opv (v' := .d (.list (encCls _))) (opv_move rfl) rfl ?_
      refine RD.opv (v' := .d (.int _ _)) (opv_move rfl) rfl ?_
      refine RD.opv (v' := .d (.ptr _)) (opv_index_cls rfl rfl hk) rfl ?_
      refine RD.opv (v' := .d (.ptr _)) (opv_field_ptr rfl) rfl ?_
      refine RD.opv (v' := .d (enc _)) (opv_load_pt rfl rfl) rfl ?_
      refine RD.opv (v' := .d (.list (encs _))) (opv_bs_term2 rfl rfl ) rfl ?_
      refine RD.opn (v' := .own 1 _) (O' := [_, _]) (opv_append_terms rfl rfl rfl (by rw [textsC_len]; simp; omega)) rfl rfl trivial ?_
      refine RD.opv (v' := .own 1 _) (opv_assign rfl) rfl ?_
      refine RD.nil ?_
      refine blockQ_normal ?_
      refine thenQ_normal ?_
      refine Runs.has [(1, .d (.list (encCls _))), (2, .d (.list (encs _))), (4, .ref 0 0), (8, .d (.bool false)), (9, .d (.str _)), (10, .d (.int _ _)), (11, .own 1 _), (12, .d (.int _ _))] ⟨rfl, rfl, rfl, rfl, rfl, rfl, rfl, rfl, trivial⟩ ?_
      refine Runs.region ?_
      refine RO.opv (v' := .d (.int _ _)) (opv_move rfl) rfl ?_
      refine RO.opv (v' := .d (.int _ _)) (opv_bin rfl rfl rfl) rfl ?_
      refine RO.opv (v' := .d (.int _ _)) (opv_assign rfl) rfl ?_
      refine RO.nil ?_
      refine thenQ_normal ?_
      refine ⟨i + 1, 2, (by rw [hK]; exact Nat.le_of_ble_eq_true rfl), ⟨rfl, rfl, rfl, rfl, rfl, rfl, trivial⟩, ⟨?_, ?_, trivial⟩, ?_, ?_, ?_⟩
      · rfl
      · refine int_eq ?_; rw [wrap64 (by omega) (by omega)]; omega
      · rw [textsC_take hk]; rfl
      · omega
      · omega
    · try simp only [Z.a, Z.b, Z.c, Z.d, Z.e, Z.f, Z.g, Z.h, Z.i, Z.j, Z.k, Z.l, Z.m] at h2
      have hk : i = cs.length := by omega
      rw [hk, List.take_length]
      refine RO.nil ?_
      refine Runs.condF rfl ?_
      refine Runs.exit ?_
      refine thenQ_exit ?_
      refine thenQ_exit ?_
      refine blockQ_here ?_
      refine thenQ_normal ?_
      refine Runs.has [(2, .d (.list (encs _))), (4, .ref 0 0), (8, .d (.bool false)), (9, .d (.str _)), (10, .d (.int _ _)), (11, .own 1 _)] ⟨rfl, rfl, rfl, rfl, rfl, rfl, trivial⟩ ?_
      refine Runs.seq ?_
      refine Runs.rseq ?_
      refine RO.opv (v' := .d (.int _ _)) (opv_assign rfl) rfl ?_
      refine RO.nil ?_
      refine Runs.block ?_
      refine Runs.loopC (X := Nat) (fun i => i ≤ gs.length) (fun i => gs.length - i) [(2, .d (.list (encs _))), (4, .ref 0 0), (8, .d (.bool false)), (9, .d (.str _))] (fun i => [(10, .d (.int .i64 (boundG l (l.join (l.lev lv) (rtop l cs)) (gs.take i)))), (11, .own 1 (1 + cs.length + i)), (13, .d (.int .i64 (i : Nat)))]) [_] (fun i => [.buf 47 4 (encs (textsC cs ++ gs.take i)) (1 + cs.length + i)]) (0) ⟨rfl, rfl, rfl, rfl, trivial⟩ ⟨rfl, rfl, rfl, trivial⟩ (by rw [List.take_zero, List.append_nil]; rfl) (by omega) fun i hi => ?_
      refine Runs.seq ?_
      refine Runs.rseq ?_
      refine RO.opv (v' := .d (.int _ _)) (opv_move rfl) rfl ?_
      refine RO.opv (v' := .d (.list (encs _))) (opv_move rfl) rfl ?_
      refine RO.opv (v' := .d (.int _ _)) (opv_len_terms rfl) rfl ?_
      refine RO.opc (opv_bin rfl rfl rfl) (fun h3 => ?_) (fun h3 => ?_)
      · try simp only [Z.a, Z.b, Z.c, Z.d, Z.e, Z.f, Z.g, Z.h, Z.i, Z.j, Z.k, Z.l, Z.m] at h3
        have hk2 : i < gs.length := by omega
        have hbg := bulks_mem (List.getElem_mem hk2)
        refine RO.nil ?_
        refine Runs.condT rfl ?_
        refine Runs.skip ?_
        refine thenQ_normal ?_
        refine Runs.has [(2, .d (.list (encs _))), (4, .ref 0 0), (8, .d (.bool false)), (9, .d (.str _)), (10, .d (.int _ _)), (11, .own 1 _), (13, .d (.int _ _))] ⟨rfl, rfl, rfl, rfl, rfl, rfl, rfl, trivial⟩ ?_
        refine Runs.seq ?_
        refine Runs.block ?_
        refine Runs.seq ?_
        refine Runs.drawn (by kernel_rfl) [] [false, false, false, false, false, false, false, false, false, false] [false, false, false, false, false, false, false, false, false, false] (by decide +kernel) ?_
        refine RD.opv (v' := .d (encR _)) (opv_load_ref rfl rfl rfl) rfl ?_
        refine RD.opv (v' := .d (.int _ _)) (opv_move rfl) rfl ?_
        refine RD.opv (v' := .d (encR _)) (opv_load_ref rfl rfl rfl) rfl ?_
        refine RD.opv (v' := .d (.list (encs _))) (opv_move rfl) rfl ?_
        refine RD.opv (v' := .d (.int _ _)) (opv_move rfl) rfl ?_
        refine RD.opv (v' := .d (.ptr _)) (opv_index_terms rfl rfl hk2) rfl ?_
        refine RD.opv (v' := .d (enc _)) (opv_load_pterm rfl) rfl ?_
        refine RD.opv (v' := .d (.int _ _)) (opv_callF (rsjoin_fn M l hM gs[i] (by omega)) rfl rfl rfl trivial) rfl ?_
        refine RD.opv (v' := .d (.int _ _)) (opv_callF (mjoin_fn M l hM _ _) rfl rfl rfl trivial) rfl ?_
        refine RD.opv (v' := .d (.int _ _)) (opv_assign rfl) rfl ?_
        refine RD.nil ?_
        refine thenQ_normal ?_
        refine Runs.has [(2, .d (.list (encs _))), (4, .ref 0 0), (8, .d (.bool false)), (9, .d (.str _)), (10, .d (.int _ _)), (11, .own 1 _), (13, .d (.int _ _))] ⟨rfl, rfl, rfl, rfl, rfl, rfl, rfl, trivial⟩ ?_
        refine Runs.region ?_
        refine RO.opv (v' := .own 1 _) (opv_move rfl) rfl ?_
        refine RO.opv (v' := .d (.list (encs _))) (opv_move rfl) rfl ?_
        refine RO.opv (v' := .d (.int _ _)) (opv_move rfl) rfl ?_
        refine RO.opv (v' := .d (.ptr _)) (opv_index_terms rfl rfl hk2) rfl ?_
        refine RO.opv (v' := .d (enc _)) (opv_load_pterm rfl) rfl ?_
        refine RO.opv (v' := .d (.list (encs _))) (opv_bs_term1 rfl ) rfl ?_
        refine RO.opn (v' := .own 1 _) (O' := [_, _]) (opv_append_terms rfl rfl rfl (by rw [List.length_append, hTl]; simp; omega)) rfl rfl ?_
        refine RO.opv (v' := .own 1 _) (opv_assign rfl) rfl ?_
        refine RO.nil ?_
        refine blockQ_normal ?_
        refine thenQ_normal ?_
        refine Runs.has [(2, .d (.list (encs _))), (4, .ref 0 0), (8, .d (.bool false)), (9, .d (.str _)), (10, .d (.int _ _)), (11, .own 1 _), (13, .d (.int _ _))] ⟨rfl, rfl, rfl, rfl, rfl, rfl, rfl, trivial⟩ ?_
        refine Runs.region ?_
        refine RO.opv (v' := .d (.int _ _)) (opv_move rfl) rfl ?_
        refine RO.opv (v' := .d (.int _ _)) (opv_bin rfl rfl rfl) rfl ?_
        refine RO.opv (v' := .d (.int _ _)) (opv_assign rfl) rfl ?_
        refine RO.nil ?_
        refine thenQ_normal ?_
        refine ⟨i + 1, 2, (by rw [hK]; exact Nat.le_of_ble_eq_true rfl), ⟨rfl, rfl, rfl, rfl, trivial⟩, ⟨?_, ?_, ?_, trivial⟩, ?_, ?_, ?_⟩
        · refine int_eq ?_; rw [boundG_take hk2]
        · rfl
        · refine int_eq ?_; rw [wrap64 (by omega) (by omega)]; omega
        · rw [List.take_succ_eq_append_getElem hk2, ← List.append_assoc]; rfl
        · omega
        · omega
      · try simp only [Z.a, Z.b, Z.c, Z.d, Z.e, Z.f, Z.g, Z.h, Z.i, Z.j, Z.k, Z.l, Z.m] at h3
        have hk2 : i = gs.length := by omega
        rw [hk2, List.take_length]
        refine RO.nil ?_
        refine Runs.condF rfl ?_
        refine Runs.exit ?_
        refine thenQ_exit ?_
        refine thenQ_exit ?_
        refine blockQ_here ?_
        refine thenQ_normal ?_
        refine Runs.has [(4, .ref 0 0), (8, .d (.bool false)), (9, .d (.str _)), (10, .d (.int _ _)), (11, .own 1 _)] ⟨rfl, rfl, rfl, rfl, rfl, trivial⟩ ?_
        refine Runs.rseq ?_
        refine RO.opv (v' := .d (.int _ _)) (opv_move rfl) rfl ?_
        refine RO.opv (v' := .d (encR _)) (opv_load_ref rfl rfl rfl) rfl ?_
        refine RO.opv (v' := .d (.int _ _)) (opv_callF (mbot_fn M l hM) rfl rfl rfl trivial) rfl ?_
        refine RO.opc (opv_bin rfl rfl rfl) (fun h4 => ?_) (fun h4 => ?_)
        · try simp only [Z.a, Z.b, Z.c, Z.d, Z.e, Z.f, Z.g, Z.h, Z.i, Z.j, Z.k, Z.l, Z.m] at h4
          have hlv : decide (¬ (boundG l (l.join (l.lev lv) (rtop l cs)) gs) = l.bottom) = true := decide_eq_true h4
          refine RO.opv (v' := .d (.bool true)) (opv_assign rfl) rfl ?_
          refine RO.nil ?_
          refine Runs.has [(4, .ref 0 0), (8, .d (.bool false)), (9, .d (.str _)), (10, .d (.int _ _)), (11, .own 1 _), (14, .d (.bool true))] ⟨rfl, rfl, rfl, rfl, rfl, rfl, trivial⟩ ?_
          refine Runs.seq ?_
          refine Runs.shut 11 rfl rfl ?_
          refine Runs.rseq ?_
          refine RO.opv (v' := .d (.int _ _)) (opv_assign rfl) rfl ?_
          refine RO.nil ?_
          refine Runs.block ?_
          refine Runs.loopC (X := Nat) (fun i => i ≤ (textsC cs ++ gs).length ∧ ∀ t ∈ (textsC cs ++ gs).take i, reasonB l t.erase (boundG l (l.join (l.lev lv) (rtop l cs)) gs) = bNone) (fun i => (textsC cs ++ gs).length - i) [(4, .ref 0 0), (10, .d (.int _ _)), (11, .d (.list (encs _))), (14, .d (.bool true))] (fun i => [(15, .d (.int .i64 (i : Nat)))]) [_, _] (fun i => []) (0) ⟨rfl, rfl, rfl, rfl, trivial⟩ ⟨rfl, trivial⟩ rfl ⟨Nat.zero_le _, fun t h => by simp at h⟩ fun i hi => ?_
          refine Runs.seq ?_
          refine Runs.rseq ?_
          refine RO.opv (v' := .d (.int _ _)) (opv_move rfl) rfl ?_
          refine RO.opv (v' := .d (.list (encs _))) (opv_move rfl) rfl ?_
          refine RO.opv (v' := .d (.int _ _)) (opv_len_terms rfl) rfl ?_
          refine RO.opc (opv_bin rfl rfl rfl) (fun h5 => ?_) (fun h5 => ?_)
          · try simp only [Z.a, Z.b, Z.c, Z.d, Z.e, Z.f, Z.g, Z.h, Z.i, Z.j, Z.k, Z.l, Z.m] at h5
            have hk3 : i < (textsC cs ++ gs).length := by omega
            refine RO.nil ?_
            refine Runs.condT rfl ?_
            refine Runs.skip ?_
            refine thenQ_normal ?_
            refine Runs.has [(4, .ref 0 0), (10, .d (.int _ _)), (11, .d (.list (encs _))), (14, .d (.bool true)), (15, .d (.int _ _))] ⟨rfl, rfl, rfl, rfl, rfl, trivial⟩ ?_
            refine Runs.seq ?_
            refine Runs.block ?_
            refine Runs.rseq ?_
            refine RO.opv (v' := .d (.list (encs _))) (opv_move rfl) rfl ?_
            refine RO.opv (v' := .d (.int _ _)) (opv_move rfl) rfl ?_
            refine RO.opv (v' := .d (.ptr _)) (opv_index_terms rfl rfl hk3) rfl ?_
            refine RO.opv (v' := .d (enc _)) (opv_load_pterm rfl) rfl ?_
            refine RO.opv (v' := .d (enc _)) (opv_callF (rerase_fn (textsC cs ++ gs)[i] (hT _ (List.getElem_mem hk3))) rfl rfl rfl trivial) rfl ?_
            refine RO.opn (v' := .ref 2 0) (O' := [_, _, _]) (opv_alloc) rfl rfl ?_
            refine RO.op0n (O' := [_, _, _]) (opv_store_term rfl rfl rfl (Nat.le_of_ble_eq_true rfl)) rfl ?_
            refine RO.nil ?_
            refine Runs.has [(4, .ref 0 0), (10, .d (.int _ _)), (11, .d (.list (encs _))), (14, .d (.bool true)), (15, .d (.int _ _)), (16, .ref 2 0)] ⟨rfl, rfl, rfl, rfl, rfl, rfl, trivial⟩ ?_
            refine Runs.seq ?_
            refine Runs.rseq ?_
            refine RO.opv (v' := .d (.bool true)) (opv_move rfl) rfl ?_
            refine RO.opv (v' := .d (.bool true)) (opv_move rfl) rfl ?_
            refine RO.opgv (v' := .d (enc _)) rfl (opv_load_term rfl rfl rfl) rfl ?_
            refine RO.opgv (v' := .d (.bool _)) rfl (opv_callF (ropen_fn (textsC cs ++ gs)[i].erase (Nat.le_trans (erase_bulk _) (hT _ (List.getElem_mem hk3)))) rfl rfl rfl trivial) rfl ?_
            refine RO.opc (opv_pick rfl rfl) (fun h6 => ?_) (fun h6 => ?_)
            · try simp only [Z.a, Z.b, Z.c, Z.d, Z.e, Z.f, Z.g, Z.h, Z.i, Z.j, Z.k, Z.l, Z.m] at h6
              have e1 := h6
              refine RO.nil ?_
              refine Runs.condT rfl ?_
              refine Runs.has [(4, .ref 0 0), (10, .d (.int _ _)), (11, .d (.list (encs _))), (14, .d (.bool true)), (15, .d (.int _ _)), (16, .ref 2 0)] ⟨rfl, rfl, rfl, rfl, rfl, rfl, trivial⟩ ?_
              refine Runs.rseq ?_
              refine RO.opv (v' := .d (.bool false)) (opv_assign rfl) rfl ?_
              refine RO.opv (v' := .d (.str _)) (opv_assign rfl) rfl ?_
              refine RO.nil ?_
              refine Runs.ret ?_
              refine thenQ_ret ?_
              refine blockQ_ret ?_
              refine thenQ_ret ?_
              refine thenQ_ret ?_
              refine blockQ_ret ?_
              refine thenQ_ret ?_
              refine EndQ.tmps2 (.inr rfl) rfl rfl rfl 0 (by exact Nat.le_refl _) (by exact Nat.zero_le _) ⟨trivial, trivial, trivial⟩ ⟨?_, rfl⟩
              first
                | (rw [accept_one hn1]; rfl)
                | (rw [accept_some hn0 hn1 (show (l.join (l.lev lv) (rtop l cs)) = l.join (l.lev lv) (topB l cs) by rw [htop])]; rw [judge_stop hk3 hi.2 (reason_1 hlv e1) (by decide +kernel)]; try rfl)
                | (rw [accept_some hn0 hn1 (show (l.join (l.lev lv) (rtop l cs)) = l.join (l.lev lv) (topB l cs) by rw [htop])]; rw [judge_stop hk3 hi.2 (reason_2 hlv e1 e2) (by decide +kernel)]; try rfl)
                | (rw [accept_some hn0 hn1 (show (l.join (l.lev lv) (rtop l cs)) = l.join (l.lev lv) (topB l cs) by rw [htop])]; rw [judge_stop hk3 hi.2 (reason_3 hlv e1 e2 e3) (by decide +kernel)]; try rfl)
                | (rw [accept_some hn0 hn1 (show (l.join (l.lev lv) (rtop l cs)) = l.join (l.lev lv) (topB l cs) by rw [htop])]; rw [judge_stop hk3 hi.2 (reason_4 hlv e1 e2 e3 e4) (by decide +kernel)]; try rfl)
                | (rw [accept_some hn0 hn1 (show (l.join (l.lev lv) (rtop l cs)) = l.join (l.lev lv) (topB l cs) by rw [htop])]; rw [judge_stop hk3 hi.2 (reason_6 hlv e3) (by decide +kernel)]; try rfl)
                | (rw [accept_some hn0 hn1 (show (l.join (l.lev lv) (rtop l cs)) = l.join (l.lev lv) (topB l cs) by rw [htop])]; rw [judge_ok (by have h0 := hi.2; rwa [hk3, List.take_length] at h0)]; try rfl)
            · try simp only [Z.a, Z.b, Z.c, Z.d, Z.e, Z.f, Z.g, Z.h, Z.i, Z.j, Z.k, Z.l, Z.m] at h6
              have e1 := h6
              refine RO.nil ?_
              refine Runs.condF rfl ?_
              refine Runs.skip ?_
              refine thenQ_normal ?_
              refine Runs.has [(4, .ref 0 0), (10, .d (.int _ _)), (11, .d (.list (encs _))), (14, .d (.bool true)), (15, .d (.int _ _)), (16, .ref 2 0)] ⟨rfl, rfl, rfl, rfl, rfl, rfl, trivial⟩ ?_
              refine Runs.seq ?_
              refine Runs.rseq ?_
              refine RO.opv (v' := .d (.bool true)) (opv_move rfl) rfl ?_
              refine RO.opv (v' := .d (.bool true)) (opv_move rfl) rfl ?_
              refine RO.opgv (v' := .d (enc _)) rfl (opv_load_term rfl rfl rfl) rfl ?_
              refine RO.opgv (v' := .d (.bool _)) rfl (opv_callF (rhas_fn (textsC cs ++ gs)[i].erase bCall 1 (Nat.le_trans (erase_bulk _) (hT _ (List.getElem_mem hk3)))) rfl rfl rfl trivial) rfl ?_
              refine RO.opc (opv_pick rfl rfl) (fun h7 => ?_) (fun h7 => ?_)
              · try simp only [Z.a, Z.b, Z.c, Z.d, Z.e, Z.f, Z.g, Z.h, Z.i, Z.j, Z.k, Z.l, Z.m] at h7
                have e2 := h7
                refine RO.nil ?_
                refine Runs.condT rfl ?_
                refine Runs.has [(4, .ref 0 0), (10, .d (.int _ _)), (11, .d (.list (encs _))), (14, .d (.bool true)), (15, .d (.int _ _)), (16, .ref 2 0)] ⟨rfl, rfl, rfl, rfl, rfl, rfl, trivial⟩ ?_
                refine Runs.rseq ?_
                refine RO.opv (v' := .d (.bool false)) (opv_assign rfl) rfl ?_
                refine RO.opv (v' := .d (.str _)) (opv_assign rfl) rfl ?_
                refine RO.nil ?_
                refine Runs.ret ?_
                refine thenQ_ret ?_
                refine blockQ_ret ?_
                refine thenQ_ret ?_
                refine thenQ_ret ?_
                refine blockQ_ret ?_
                refine thenQ_ret ?_
                refine EndQ.tmps2 (.inr rfl) rfl rfl rfl 0 (by exact Nat.le_refl _) (by exact Nat.zero_le _) ⟨trivial, trivial, trivial⟩ ⟨?_, rfl⟩
                first
                  | (rw [accept_one hn1]; rfl)
                  | (rw [accept_some hn0 hn1 (show (l.join (l.lev lv) (rtop l cs)) = l.join (l.lev lv) (topB l cs) by rw [htop])]; rw [judge_stop hk3 hi.2 (reason_1 hlv e1) (by decide +kernel)]; try rfl)
                  | (rw [accept_some hn0 hn1 (show (l.join (l.lev lv) (rtop l cs)) = l.join (l.lev lv) (topB l cs) by rw [htop])]; rw [judge_stop hk3 hi.2 (reason_2 hlv e1 e2) (by decide +kernel)]; try rfl)
                  | (rw [accept_some hn0 hn1 (show (l.join (l.lev lv) (rtop l cs)) = l.join (l.lev lv) (topB l cs) by rw [htop])]; rw [judge_stop hk3 hi.2 (reason_3 hlv e1 e2 e3) (by decide +kernel)]; try rfl)
                  | (rw [accept_some hn0 hn1 (show (l.join (l.lev lv) (rtop l cs)) = l.join (l.lev lv) (topB l cs) by rw [htop])]; rw [judge_stop hk3 hi.2 (reason_4 hlv e1 e2 e3 e4) (by decide +kernel)]; try rfl)
                  | (rw [accept_some hn0 hn1 (show (l.join (l.lev lv) (rtop l cs)) = l.join (l.lev lv) (topB l cs) by rw [htop])]; rw [judge_stop hk3 hi.2 (reason_6 hlv e3) (by decide +kernel)]; try rfl)
                  | (rw [accept_some hn0 hn1 (show (l.join (l.lev lv) (rtop l cs)) = l.join (l.lev lv) (topB l cs) by rw [htop])]; rw [judge_ok (by have h0 := hi.2; rwa [hk3, List.take_length] at h0)]; try rfl)
              · try simp only [Z.a, Z.b, Z.c, Z.d, Z.e, Z.f, Z.g, Z.h, Z.i, Z.j, Z.k, Z.l, Z.m] at h7
                have e2 := h7
                refine RO.nil ?_
                refine Runs.condF rfl ?_
                refine Runs.skip ?_
                refine thenQ_normal ?_
                refine Runs.has [(4, .ref 0 0), (10, .d (.int _ _)), (11, .d (.list (encs _))), (14, .d (.bool true)), (15, .d (.int _ _)), (16, .ref 2 0)] ⟨rfl, rfl, rfl, rfl, rfl, rfl, trivial⟩ ?_
                refine Runs.seq ?_
                refine Runs.rseq ?_
                refine RO.opv (v' := .d (enc _)) (opv_load_term rfl rfl rfl) rfl ?_
                refine RO.opc (opv_callF (rhas_fn (textsC cs ++ gs)[i].erase bDecl 4 (Nat.le_trans (erase_bulk _) (hT _ (List.getElem_mem hk3)))) rfl rfl rfl trivial) (fun h8 => ?_) (fun h8 => ?_)
                · try simp only [Z.a, Z.b, Z.c, Z.d, Z.e, Z.f, Z.g, Z.h, Z.i, Z.j, Z.k, Z.l, Z.m] at h8
                  have e3 := h8
                  refine RO.nil ?_
                  refine Runs.condT rfl ?_
                  refine Runs.has [(4, .ref 0 0), (10, .d (.int _ _)), (11, .d (.list (encs _))), (14, .d (.bool true)), (15, .d (.int _ _)), (16, .ref 2 0)] ⟨rfl, rfl, rfl, rfl, rfl, rfl, trivial⟩ ?_
                  refine Runs.rseq ?_
                  refine RO.opv (v' := .d (.bool false)) (opv_assign rfl) rfl ?_
                  refine RO.opv (v' := .d (.str _)) (opv_assign rfl) rfl ?_
                  refine RO.nil ?_
                  refine Runs.ret ?_
                  refine thenQ_ret ?_
                  refine blockQ_ret ?_
                  refine thenQ_ret ?_
                  refine thenQ_ret ?_
                  refine blockQ_ret ?_
                  refine thenQ_ret ?_
                  refine EndQ.tmps2 (.inr rfl) rfl rfl rfl 0 (by exact Nat.le_refl _) (by exact Nat.zero_le _) ⟨trivial, trivial, trivial⟩ ⟨?_, rfl⟩
                  first
                    | (rw [accept_one hn1]; rfl)
                    | (rw [accept_some hn0 hn1 (show (l.join (l.lev lv) (rtop l cs)) = l.join (l.lev lv) (topB l cs) by rw [htop])]; rw [judge_stop hk3 hi.2 (reason_1 hlv e1) (by decide +kernel)]; try rfl)
                    | (rw [accept_some hn0 hn1 (show (l.join (l.lev lv) (rtop l cs)) = l.join (l.lev lv) (topB l cs) by rw [htop])]; rw [judge_stop hk3 hi.2 (reason_2 hlv e1 e2) (by decide +kernel)]; try rfl)
                    | (rw [accept_some hn0 hn1 (show (l.join (l.lev lv) (rtop l cs)) = l.join (l.lev lv) (topB l cs) by rw [htop])]; rw [judge_stop hk3 hi.2 (reason_3 hlv e1 e2 e3) (by decide +kernel)]; try rfl)
                    | (rw [accept_some hn0 hn1 (show (l.join (l.lev lv) (rtop l cs)) = l.join (l.lev lv) (topB l cs) by rw [htop])]; rw [judge_stop hk3 hi.2 (reason_4 hlv e1 e2 e3 e4) (by decide +kernel)]; try rfl)
                    | (rw [accept_some hn0 hn1 (show (l.join (l.lev lv) (rtop l cs)) = l.join (l.lev lv) (topB l cs) by rw [htop])]; rw [judge_stop hk3 hi.2 (reason_6 hlv e3) (by decide +kernel)]; try rfl)
                    | (rw [accept_some hn0 hn1 (show (l.join (l.lev lv) (rtop l cs)) = l.join (l.lev lv) (topB l cs) by rw [htop])]; rw [judge_ok (by have h0 := hi.2; rwa [hk3, List.take_length] at h0)]; try rfl)
                · try simp only [Z.a, Z.b, Z.c, Z.d, Z.e, Z.f, Z.g, Z.h, Z.i, Z.j, Z.k, Z.l, Z.m] at h8
                  have e3 := h8
                  refine RO.nil ?_
                  refine Runs.condF rfl ?_
                  refine Runs.skip ?_
                  refine thenQ_normal ?_
                  refine Runs.has [(4, .ref 0 0), (10, .d (.int _ _)), (11, .d (.list (encs _))), (14, .d (.bool true)), (15, .d (.int _ _)), (16, .ref 2 0)] ⟨rfl, rfl, rfl, rfl, rfl, rfl, trivial⟩ ?_
                  refine Runs.rseq ?_
                  refine RO.opv (v' := .d (.bool true)) (opv_move rfl) rfl ?_
                  refine RO.opv (v' := .d (.bool true)) (opv_move rfl) rfl ?_
                  refine RO.opgv (v' := .d (encR _)) rfl (opv_load_ref rfl rfl rfl) rfl ?_
                  refine RO.opgv (v' := .d (enc _)) rfl (opv_load_term rfl rfl rfl) rfl ?_
                  refine RO.opgv (v' := .d (.int _ _)) rfl (opv_move rfl) rfl ?_
                  refine RO.opgv (v' := .d (.bool _)) rfl (opv_callF (rlowt_fn M l hM (textsC cs ++ gs)[i].erase (boundG l (l.join (l.lev lv) (rtop l cs)) gs) (Nat.le_trans (erase_bulk _) (hT _ (List.getElem_mem hk3)))) rfl rfl rfl trivial) rfl ?_
                  refine RO.opc (opv_pick rfl rfl) (fun h9 => ?_) (fun h9 => ?_)
                  · try simp only [Z.a, Z.b, Z.c, Z.d, Z.e, Z.f, Z.g, Z.h, Z.i, Z.j, Z.k, Z.l, Z.m] at h9
                    have e4 := h9
                    refine RO.nil ?_
                    refine Runs.condT rfl ?_
                    refine Runs.has [(4, .ref 0 0), (10, .d (.int _ _)), (11, .d (.list (encs _))), (14, .d (.bool true)), (15, .d (.int _ _))] ⟨rfl, rfl, rfl, rfl, rfl, trivial⟩ ?_
                    refine Runs.rseq ?_
                    refine RO.opv (v' := .d (.bool false)) (opv_assign rfl) rfl ?_
                    refine RO.opv (v' := .d (.str _)) (opv_assign rfl) rfl ?_
                    refine RO.nil ?_
                    refine Runs.ret ?_
                    refine blockQ_ret ?_
                    refine thenQ_ret ?_
                    refine thenQ_ret ?_
                    refine blockQ_ret ?_
                    refine thenQ_ret ?_
                    refine EndQ.tmps2 (.inr rfl) rfl rfl rfl 0 (by exact Nat.le_refl _) (by exact Nat.zero_le _) ⟨trivial, trivial, trivial⟩ ⟨?_, rfl⟩
                    first
                      | (rw [accept_one hn1]; rfl)
                      | (rw [accept_some hn0 hn1 (show (l.join (l.lev lv) (rtop l cs)) = l.join (l.lev lv) (topB l cs) by rw [htop])]; rw [judge_stop hk3 hi.2 (reason_1 hlv e1) (by decide +kernel)]; try rfl)
                      | (rw [accept_some hn0 hn1 (show (l.join (l.lev lv) (rtop l cs)) = l.join (l.lev lv) (topB l cs) by rw [htop])]; rw [judge_stop hk3 hi.2 (reason_2 hlv e1 e2) (by decide +kernel)]; try rfl)
                      | (rw [accept_some hn0 hn1 (show (l.join (l.lev lv) (rtop l cs)) = l.join (l.lev lv) (topB l cs) by rw [htop])]; rw [judge_stop hk3 hi.2 (reason_3 hlv e1 e2 e3) (by decide +kernel)]; try rfl)
                      | (rw [accept_some hn0 hn1 (show (l.join (l.lev lv) (rtop l cs)) = l.join (l.lev lv) (topB l cs) by rw [htop])]; rw [judge_stop hk3 hi.2 (reason_4 hlv e1 e2 e3 e4) (by decide +kernel)]; try rfl)
                      | (rw [accept_some hn0 hn1 (show (l.join (l.lev lv) (rtop l cs)) = l.join (l.lev lv) (topB l cs) by rw [htop])]; rw [judge_stop hk3 hi.2 (reason_6 hlv e3) (by decide +kernel)]; try rfl)
                      | (rw [accept_some hn0 hn1 (show (l.join (l.lev lv) (rtop l cs)) = l.join (l.lev lv) (topB l cs) by rw [htop])]; rw [judge_ok (by have h0 := hi.2; rwa [hk3, List.take_length] at h0)]; try rfl)
                  · try simp only [Z.a, Z.b, Z.c, Z.d, Z.e, Z.f, Z.g, Z.h, Z.i, Z.j, Z.k, Z.l, Z.m] at h9
                    have e4 := h9
                    refine RO.nil ?_
                    refine Runs.condF rfl ?_
                    refine Runs.skip ?_
                    refine blockQ_normal ?_
                    refine thenQ_normal ?_
                    refine Runs.has [(4, .ref 0 0), (10, .d (.int _ _)), (11, .d (.list (encs _))), (14, .d (.bool true)), (15, .d (.int _ _))] ⟨rfl, rfl, rfl, rfl, rfl, trivial⟩ ?_
                    refine Runs.region ?_
                    refine RO.opv (v' := .d (.int _ _)) (opv_move rfl) rfl ?_
                    refine RO.opv (v' := .d (.int _ _)) (opv_bin rfl rfl rfl) rfl ?_
                    refine RO.opv (v' := .d (.int _ _)) (opv_assign rfl) rfl ?_
                    refine RO.nil ?_
                    refine thenQ_normal ?_
                    refine ⟨i + 1, 2, (by rw [hK]; exact Nat.le_of_ble_eq_true rfl), ⟨rfl, rfl, rfl, rfl, trivial⟩, ⟨?_, trivial⟩, rfl, ?_, ?_⟩
                    · refine int_eq ?_; rw [wrap64 (by omega) (by omega)]; omega
                    · first
                        | exact ⟨by omega, judge_step hk3 hi.2 (reason_5 e1 e2 e3 e4)⟩
                        | exact ⟨by omega, judge_step hk3 hi.2 (reason_7 hlv e3)⟩
                    · omega
          · try simp only [Z.a, Z.b, Z.c, Z.d, Z.e, Z.f, Z.g, Z.h, Z.i, Z.j, Z.k, Z.l, Z.m] at h5
            have hk3 : i = (textsC cs ++ gs).length := by omega
            refine RO.nil ?_
            refine Runs.condF rfl ?_
            refine Runs.exit ?_
            refine thenQ_exit ?_
            refine thenQ_exit ?_
            refine blockQ_here ?_
            refine thenQ_normal ?_
            refine Runs.has [] trivial ?_
            refine Runs.rseq ?_
            refine RO.opv (v' := .d (.bool true)) (opv_assign rfl) rfl ?_
            refine RO.opv (v' := .d (.str _)) (opv_assign rfl) rfl ?_
            refine RO.nil ?_
            refine Runs.ret ?_
            refine EndQ.tmps2 (.inr rfl) rfl rfl rfl 0 (by exact Nat.le_refl _) (by exact Nat.zero_le _) ⟨trivial, trivial, trivial⟩ ⟨?_, rfl⟩
            first
              | (rw [accept_one hn1]; rfl)
              | (rw [accept_some hn0 hn1 (show (l.join (l.lev lv) (rtop l cs)) = l.join (l.lev lv) (topB l cs) by rw [htop])]; rw [judge_stop hk3 hi.2 (reason_1 hlv e1) (by decide +kernel)]; try rfl)
              | (rw [accept_some hn0 hn1 (show (l.join (l.lev lv) (rtop l cs)) = l.join (l.lev lv) (topB l cs) by rw [htop])]; rw [judge_stop hk3 hi.2 (reason_2 hlv e1 e2) (by decide +kernel)]; try rfl)
              | (rw [accept_some hn0 hn1 (show (l.join (l.lev lv) (rtop l cs)) = l.join (l.lev lv) (topB l cs) by rw [htop])]; rw [judge_stop hk3 hi.2 (reason_3 hlv e1 e2 e3) (by decide +kernel)]; try rfl)
              | (rw [accept_some hn0 hn1 (show (l.join (l.lev lv) (rtop l cs)) = l.join (l.lev lv) (topB l cs) by rw [htop])]; rw [judge_stop hk3 hi.2 (reason_4 hlv e1 e2 e3 e4) (by decide +kernel)]; try rfl)
              | (rw [accept_some hn0 hn1 (show (l.join (l.lev lv) (rtop l cs)) = l.join (l.lev lv) (topB l cs) by rw [htop])]; rw [judge_stop hk3 hi.2 (reason_6 hlv e3) (by decide +kernel)]; try rfl)
              | (rw [accept_some hn0 hn1 (show (l.join (l.lev lv) (rtop l cs)) = l.join (l.lev lv) (topB l cs) by rw [htop])]; rw [judge_ok (by have h0 := hi.2; rwa [hk3, List.take_length] at h0)]; try rfl)
        · try simp only [Z.a, Z.b, Z.c, Z.d, Z.e, Z.f, Z.g, Z.h, Z.i, Z.j, Z.k, Z.l, Z.m] at h4
          have hlv : decide (¬ (boundG l (l.join (l.lev lv) (rtop l cs)) gs) = l.bottom) = false := decide_eq_false (by simpa using h4)
          refine RO.opv (v' := .d (.bool false)) (opv_assign rfl) rfl ?_
          refine RO.nil ?_
          refine Runs.has [(4, .ref 0 0), (8, .d (.bool false)), (9, .d (.str _)), (10, .d (.int _ _)), (11, .own 1 _), (14, .d (.bool false))] ⟨rfl, rfl, rfl, rfl, rfl, rfl, trivial⟩ ?_
          refine Runs.seq ?_
          refine Runs.shut 11 rfl rfl ?_
          refine Runs.rseq ?_
          refine RO.opv (v' := .d (.int _ _)) (opv_assign rfl) rfl ?_
          refine RO.nil ?_
          refine Runs.block ?_
          refine Runs.loopC (X := Nat) (fun i => i ≤ (textsC cs ++ gs).length ∧ ∀ t ∈ (textsC cs ++ gs).take i, reasonB l t.erase (boundG l (l.join (l.lev lv) (rtop l cs)) gs) = bNone) (fun i => (textsC cs ++ gs).length - i) [(4, .ref 0 0), (10, .d (.int _ _)), (11, .d (.list (encs _))), (14, .d (.bool false))] (fun i => [(15, .d (.int .i64 (i : Nat)))]) [_, _] (fun i => []) (0) ⟨rfl, rfl, rfl, rfl, trivial⟩ ⟨rfl, trivial⟩ rfl ⟨Nat.zero_le _, fun t h => by simp at h⟩ fun i hi => ?_
          refine Runs.seq ?_
          refine Runs.rseq ?_
          refine RO.opv (v' := .d (.int _ _)) (opv_move rfl) rfl ?_
          refine RO.opv (v' := .d (.list (encs _))) (opv_move rfl) rfl ?_
          refine RO.opv (v' := .d (.int _ _)) (opv_len_terms rfl) rfl ?_
          refine RO.opc (opv_bin rfl rfl rfl) (fun h10 => ?_) (fun h10 => ?_)
          · try simp only [Z.a, Z.b, Z.c, Z.d, Z.e, Z.f, Z.g, Z.h, Z.i, Z.j, Z.k, Z.l, Z.m] at h10
            have hk3 : i < (textsC cs ++ gs).length := by omega
            refine RO.nil ?_
            refine Runs.condT rfl ?_
            refine Runs.skip ?_
            refine thenQ_normal ?_
            refine Runs.has [(4, .ref 0 0), (10, .d (.int _ _)), (11, .d (.list (encs _))), (14, .d (.bool false)), (15, .d (.int _ _))] ⟨rfl, rfl, rfl, rfl, rfl, trivial⟩ ?_
            refine Runs.seq ?_
            refine Runs.block ?_
            refine Runs.rseq ?_
            refine RO.opv (v' := .d (.list (encs _))) (opv_move rfl) rfl ?_
            refine RO.opv (v' := .d (.int _ _)) (opv_move rfl) rfl ?_
            refine RO.opv (v' := .d (.ptr _)) (opv_index_terms rfl rfl hk3) rfl ?_
            refine RO.opv (v' := .d (enc _)) (opv_load_pterm rfl) rfl ?_
            refine RO.opv (v' := .d (enc _)) (opv_callF (rerase_fn (textsC cs ++ gs)[i] (hT _ (List.getElem_mem hk3))) rfl rfl rfl trivial) rfl ?_
            refine RO.opn (v' := .ref 2 0) (O' := [_, _, _]) (opv_alloc) rfl rfl ?_
            refine RO.op0n (O' := [_, _, _]) (opv_store_term rfl rfl rfl (Nat.le_of_ble_eq_true rfl)) rfl ?_
            refine RO.nil ?_
            refine Runs.has [(4, .ref 0 0), (10, .d (.int _ _)), (11, .d (.list (encs _))), (14, .d (.bool false)), (15, .d (.int _ _)), (16, .ref 2 0)] ⟨rfl, rfl, rfl, rfl, rfl, rfl, trivial⟩ ?_
            refine Runs.seq ?_
            refine Runs.rseq ?_
            refine RO.opv (v' := .d (.bool false)) (opv_move rfl) rfl ?_
            refine RO.opv (v' := .d (.bool false)) (opv_move rfl) rfl ?_
            refine RO.off rfl ?_
            refine RO.off rfl ?_
            refine RO.opv (v' := .d (.bool false)) (opv_pick rfl rfl) rfl ?_
            refine RO.nil ?_
            refine Runs.condF rfl ?_
            refine Runs.skip ?_
            refine thenQ_normal ?_
            refine Runs.has [(4, .ref 0 0), (10, .d (.int _ _)), (11, .d (.list (encs _))), (14, .d (.bool false)), (15, .d (.int _ _)), (16, .ref 2 0)] ⟨rfl, rfl, rfl, rfl, rfl, rfl, trivial⟩ ?_
            refine Runs.seq ?_
            refine Runs.rseq ?_
            refine RO.opv (v' := .d (.bool false)) (opv_move rfl) rfl ?_
            refine RO.opv (v' := .d (.bool false)) (opv_move rfl) rfl ?_
            refine RO.off rfl ?_
            refine RO.off rfl ?_
            refine RO.opv (v' := .d (.bool false)) (opv_pick rfl rfl) rfl ?_
            refine RO.nil ?_
            refine Runs.condF rfl ?_
            refine Runs.skip ?_
            refine thenQ_normal ?_
            refine Runs.has [(4, .ref 0 0), (10, .d (.int _ _)), (11, .d (.list (encs _))), (14, .d (.bool false)), (15, .d (.int _ _)), (16, .ref 2 0)] ⟨rfl, rfl, rfl, rfl, rfl, rfl, trivial⟩ ?_
            refine Runs.seq ?_
            refine Runs.rseq ?_
            refine RO.opv (v' := .d (enc _)) (opv_load_term rfl rfl rfl) rfl ?_
            refine RO.opc (opv_callF (rhas_fn (textsC cs ++ gs)[i].erase bDecl 4 (Nat.le_trans (erase_bulk _) (hT _ (List.getElem_mem hk3)))) rfl rfl rfl trivial) (fun h11 => ?_) (fun h11 => ?_)
            · try simp only [Z.a, Z.b, Z.c, Z.d, Z.e, Z.f, Z.g, Z.h, Z.i, Z.j, Z.k, Z.l, Z.m] at h11
              have e3 := h11
              refine RO.nil ?_
              refine Runs.condT rfl ?_
              refine Runs.has [(4, .ref 0 0), (10, .d (.int _ _)), (11, .d (.list (encs _))), (14, .d (.bool false)), (15, .d (.int _ _)), (16, .ref 2 0)] ⟨rfl, rfl, rfl, rfl, rfl, rfl, trivial⟩ ?_
              refine Runs.rseq ?_
              refine RO.opv (v' := .d (.bool false)) (opv_assign rfl) rfl ?_
              refine RO.opv (v' := .d (.str _)) (opv_assign rfl) rfl ?_
              refine RO.nil ?_
              refine Runs.ret ?_
              refine thenQ_ret ?_
              refine blockQ_ret ?_
              refine thenQ_ret ?_
              refine thenQ_ret ?_
              refine blockQ_ret ?_
              refine thenQ_ret ?_
              refine EndQ.tmps2 (.inr rfl) rfl rfl rfl 0 (by exact Nat.le_refl _) (by exact Nat.zero_le _) ⟨trivial, trivial, trivial⟩ ⟨?_, rfl⟩
              first
                | (rw [accept_one hn1]; rfl)
                | (rw [accept_some hn0 hn1 (show (l.join (l.lev lv) (rtop l cs)) = l.join (l.lev lv) (topB l cs) by rw [htop])]; rw [judge_stop hk3 hi.2 (reason_1 hlv e1) (by decide +kernel)]; try rfl)
                | (rw [accept_some hn0 hn1 (show (l.join (l.lev lv) (rtop l cs)) = l.join (l.lev lv) (topB l cs) by rw [htop])]; rw [judge_stop hk3 hi.2 (reason_2 hlv e1 e2) (by decide +kernel)]; try rfl)
                | (rw [accept_some hn0 hn1 (show (l.join (l.lev lv) (rtop l cs)) = l.join (l.lev lv) (topB l cs) by rw [htop])]; rw [judge_stop hk3 hi.2 (reason_3 hlv e1 e2 e3) (by decide +kernel)]; try rfl)
                | (rw [accept_some hn0 hn1 (show (l.join (l.lev lv) (rtop l cs)) = l.join (l.lev lv) (topB l cs) by rw [htop])]; rw [judge_stop hk3 hi.2 (reason_4 hlv e1 e2 e3 e4) (by decide +kernel)]; try rfl)
                | (rw [accept_some hn0 hn1 (show (l.join (l.lev lv) (rtop l cs)) = l.join (l.lev lv) (topB l cs) by rw [htop])]; rw [judge_stop hk3 hi.2 (reason_6 hlv e3) (by decide +kernel)]; try rfl)
                | (rw [accept_some hn0 hn1 (show (l.join (l.lev lv) (rtop l cs)) = l.join (l.lev lv) (topB l cs) by rw [htop])]; rw [judge_ok (by have h0 := hi.2; rwa [hk3, List.take_length] at h0)]; try rfl)
            · try simp only [Z.a, Z.b, Z.c, Z.d, Z.e, Z.f, Z.g, Z.h, Z.i, Z.j, Z.k, Z.l, Z.m] at h11
              have e3 := h11
              refine RO.nil ?_
              refine Runs.condF rfl ?_
              refine Runs.skip ?_
              refine thenQ_normal ?_
              refine Runs.has [(4, .ref 0 0), (10, .d (.int _ _)), (11, .d (.list (encs _))), (14, .d (.bool false)), (15, .d (.int _ _)), (16, .ref 2 0)] ⟨rfl, rfl, rfl, rfl, rfl, rfl, trivial⟩ ?_
              refine Runs.rseq ?_
              refine RO.opv (v' := .d (.bool false)) (opv_move rfl) rfl ?_
              refine RO.opv (v' := .d (.bool false)) (opv_move rfl) rfl ?_
              refine RO.off rfl ?_
              refine RO.off rfl ?_
              refine RO.off rfl ?_
              refine RO.off rfl ?_
              refine RO.opv (v' := .d (.bool false)) (opv_pick rfl rfl) rfl ?_
              refine RO.nil ?_
              refine Runs.condF rfl ?_
              refine Runs.skip ?_
              refine blockQ_normal ?_
              refine thenQ_normal ?_
              refine Runs.has [(4, .ref 0 0), (10, .d (.int _ _)), (11, .d (.list (encs _))), (14, .d (.bool false)), (15, .d (.int _ _))] ⟨rfl, rfl, rfl, rfl, rfl, trivial⟩ ?_
              refine Runs.region ?_
              refine RO.opv (v' := .d (.int _ _)) (opv_move rfl) rfl ?_
              refine RO.opv (v' := .d (.int _ _)) (opv_bin rfl rfl rfl) rfl ?_
              refine RO.opv (v' := .d (.int _ _)) (opv_assign rfl) rfl ?_
              refine RO.nil ?_
              refine thenQ_normal ?_
              refine ⟨i + 1, 2, (by rw [hK]; exact Nat.le_of_ble_eq_true rfl), ⟨rfl, rfl, rfl, rfl, trivial⟩, ⟨?_, trivial⟩, rfl, ?_, ?_⟩
              · refine int_eq ?_; rw [wrap64 (by omega) (by omega)]; omega
              · first
                  | exact ⟨by omega, judge_step hk3 hi.2 (reason_5 e1 e2 e3 e4)⟩
                  | exact ⟨by omega, judge_step hk3 hi.2 (reason_7 hlv e3)⟩
              · omega
          · try simp only [Z.a, Z.b, Z.c, Z.d, Z.e, Z.f, Z.g, Z.h, Z.i, Z.j, Z.k, Z.l, Z.m] at h10
            have hk3 : i = (textsC cs ++ gs).length := by omega
            refine RO.nil ?_
            refine Runs.condF rfl ?_
            refine Runs.exit ?_
            refine thenQ_exit ?_
            refine thenQ_exit ?_
            refine blockQ_here ?_
            refine thenQ_normal ?_
            refine Runs.has [] trivial ?_
            refine Runs.rseq ?_
            refine RO.opv (v' := .d (.bool true)) (opv_assign rfl) rfl ?_
            refine RO.opv (v' := .d (.str _)) (opv_assign rfl) rfl ?_
            refine RO.nil ?_
            refine Runs.ret ?_
            refine EndQ.tmps2 (.inr rfl) rfl rfl rfl 0 (by exact Nat.le_refl _) (by exact Nat.zero_le _) ⟨trivial, trivial, trivial⟩ ⟨?_, rfl⟩
            first
              | (rw [accept_one hn1]; rfl)
              | (rw [accept_some hn0 hn1 (show (l.join (l.lev lv) (rtop l cs)) = l.join (l.lev lv) (topB l cs) by rw [htop])]; rw [judge_stop hk3 hi.2 (reason_1 hlv e1) (by decide +kernel)]; try rfl)
              | (rw [accept_some hn0 hn1 (show (l.join (l.lev lv) (rtop l cs)) = l.join (l.lev lv) (topB l cs) by rw [htop])]; rw [judge_stop hk3 hi.2 (reason_2 hlv e1 e2) (by decide +kernel)]; try rfl)
              | (rw [accept_some hn0 hn1 (show (l.join (l.lev lv) (rtop l cs)) = l.join (l.lev lv) (topB l cs) by rw [htop])]; rw [judge_stop hk3 hi.2 (reason_3 hlv e1 e2 e3) (by decide +kernel)]; try rfl)
              | (rw [accept_some hn0 hn1 (show (l.join (l.lev lv) (rtop l cs)) = l.join (l.lev lv) (topB l cs) by rw [htop])]; rw [judge_stop hk3 hi.2 (reason_4 hlv e1 e2 e3 e4) (by decide +kernel)]; try rfl)
              | (rw [accept_some hn0 hn1 (show (l.join (l.lev lv) (rtop l cs)) = l.join (l.lev lv) (topB l cs) by rw [htop])]; rw [judge_stop hk3 hi.2 (reason_6 hlv e3) (by decide +kernel)]; try rfl)
              | (rw [accept_some hn0 hn1 (show (l.join (l.lev lv) (rtop l cs)) = l.join (l.lev lv) (topB l cs) by rw [htop])]; rw [judge_ok (by have h0 := hi.2; rwa [hk3, List.take_length] at h0)]; try rfl)
end Go.Proofs.Ytohncglpjiplaaa.AM
