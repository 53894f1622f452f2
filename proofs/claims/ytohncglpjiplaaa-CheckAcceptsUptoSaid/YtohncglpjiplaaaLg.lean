import Derived.Test.YtohncglpjiplaaaKg
import Derived.Test.YtohncglpjiplaaaQ1
namespace Go.Proofs.Ytohncglpjiplaaa.AM
open Go
set_option linter.unusedVariables false
set_option linter.unusedSimpArgs false
set_option maxRecDepth 100000
theorem rcall_fn (p : Term) : Fn Try.prog 68 [.d (enc p)] [] (.d (.bool (p.isN bCall 1))) [] := by
  refine Does.run Try.func68 rfl Try.ntmps68 rfl fun K hK => ?_
  refine Runs.rseq ?_
  refine RO.opn (v' := .ref 0 0) (O' := [_]) (opv_box_term rfl) rfl rfl ?_
  refine RO.opv (v' := .d (.bool false)) (opv_assign rfl) rfl ?_
  refine RO.nil ?_
  refine Runs.has [(1, .ref 0 0), (2, .d (.bool false))] ⟨rfl, rfl, trivial⟩ ?_
  refine Runs.rseq ?_
  refine RO.opv (v' := .d (enc _)) (opv_load_term rfl rfl rfl) rfl ?_
  refine RO.opv (v' := .d (.bool _)) (opv_callF (cis_fn p bCall 1) rfl rfl rfl trivial) rfl ?_
  refine RO.opv (v' := .d (.bool _)) (opv_assign rfl) rfl ?_
  refine RO.nil ?_
  refine Runs.ret ?_
  refine EndQ.tmp (.inr rfl) rfl rfl 0 (by exact Nat.le_refl _) (by exact Nat.zero_le _) trivial ⟨?_, rfl⟩
  rfl
theorem rdecl_fn (p : Term) : Fn Try.prog 69 [.d (enc p)] [] (.d (.bool (p.isN bDecl 4))) [] := by
  refine Does.run Try.func69 rfl Try.ntmps69 rfl fun K hK => ?_
  refine Runs.rseq ?_
  refine RO.opn (v' := .ref 0 0) (O' := [_]) (opv_box_term rfl) rfl rfl ?_
  refine RO.opv (v' := .d (.bool false)) (opv_assign rfl) rfl ?_
  refine RO.nil ?_
  refine Runs.has [(1, .ref 0 0), (2, .d (.bool false))] ⟨rfl, rfl, trivial⟩ ?_
  refine Runs.rseq ?_
  refine RO.opv (v' := .d (enc _)) (opv_load_term rfl rfl rfl) rfl ?_
  refine RO.opv (v' := .d (.bool _)) (opv_callF (cis_fn p bDecl 4) rfl rfl rfl trivial) rfl ?_
  refine RO.opv (v' := .d (.bool _)) (opv_assign rfl) rfl ?_
  refine RO.nil ?_
  refine Runs.ret ?_
  refine EndQ.tmp (.inr rfl) rfl rfl 0 (by exact Nat.le_refl _) (by exact Nat.zero_le _) trivial ⟨?_, rfl⟩
  rfl
theorem rlow_fn (l : Lt) (hl : l.Ok) (b : Int) (p : Term) : Fn Try.prog 64 [.d (enc p), .d (.ptr [encL l]), .d (.ptr [.int .i64 b])] [] (.d (.bool (lowP l b p))) [] := by
  refine Does.run Try.func64 rfl Try.ntmps64 rfl fun K hK => ?_
  refine Runs.rseq ?_
  refine RO.opn (v' := .ref 0 0) (O' := [_]) (opv_box_term rfl) rfl rfl ?_
  refine RO.opv (v' := .d (.bool false)) (opv_assign rfl) rfl ?_
  refine RO.nil ?_
  refine Runs.has [(1, .d (.ptr _)), (2, .d (.ptr _)), (3, .ref 0 0), (4, .d (.bool false))] ⟨rfl, rfl, rfl, rfl, trivial⟩ ?_
  refine Runs.seq ?_
  refine Runs.drawn (by kernel_rfl) [] [false, false, false, false, false, false, false, false, false, false, false, false, false, false, false, false, false, false, false, false, false, false, false, false] [false, false, false, false, false, false, false, false, false, false, false, false, false, false, false, false, false, false, false, false, false, false, false, false] (by decide +kernel) ?_
  refine RD.opv (v' := .d (enc _)) (opv_load_term rfl rfl rfl) rfl ?_
  refine RD.opv (v' := .d (.bool _)) (opv_callF (cis_fn p bWrite 2) rfl rfl rfl trivial) rfl ?_
  refine RD.opc (opv_move rfl) (fun h1 => ?_) (fun h1 => ?_)
  · skip
    have hw : p.isN bWrite 2 = true := h1
    have hk0 : 0 < p.kids.length := by have := (isN_iff.1 hw).2.2; omega
    refine RD.opgv (v' := .ref 0 3) rfl (opv_field_ref rfl rfl) rfl ?_
    refine RD.opgv (v' := .d (.list (encs _))) rfl (opv_load_ref rfl rfl rfl) rfl ?_
    refine RD.opgv (v' := .d (.ptr _)) rfl (opv_index_terms (i := 0) rfl rfl hk0) rfl ?_
    refine RD.opgv (v' := .d (.ptr _)) rfl (opv_field_ptr rfl) rfl ?_
    refine RD.opgv (v' := .d (.int _ _)) rfl (opv_load_ptr rfl rfl) rfl ?_
    refine RD.opgv (v' := .d (.bool _)) rfl (opv_bin rfl rfl rfl) rfl ?_
    refine RD.opgc rfl (opv_move rfl) (fun h2 => ?_) (fun h2 => ?_)
    · skip
      have hkd : (!decide (p.kids[0].kind = 2)) = true := h2
      refine RD.off rfl ?_
      refine RD.off rfl ?_
      refine RD.off rfl ?_
      refine RD.off rfl ?_
      refine RD.off rfl ?_
      refine RD.off rfl ?_
      refine RD.off rfl ?_
      refine RD.off rfl ?_
      refine RD.off rfl ?_
      refine RD.off rfl ?_
      refine RD.off rfl ?_
      refine RD.opgv (v' := .d (.bool true)) rfl (opv_pick rfl rfl) rfl ?_
      refine RD.opv (v' := .d (.bool true)) (opv_pick rfl rfl) rfl ?_
      refine RD.opv (v' := .d (.bool true)) (opv_assign rfl) rfl ?_
      refine RD.nil ?_
      refine thenQ_normal ?_
      refine Runs.ret ?_
      refine EndQ.tmp (.inr rfl) rfl rfl 0 (by exact Nat.le_refl _) (by exact Nat.zero_le _) trivial ⟨?_, rfl⟩
      refine bool_eq ?_
      unfold lowP
      first
        | (rw [hw]; rfl)
        | (rw [hw, ← kid_eq hk0, Bool.true_and, decide_not, hkd]; rfl)
    · skip
      have hkd : (!decide (p.kids[0].kind = 2)) = false := h2
      refine RD.opgv (v' := .d (encL _)) rfl (opv_load_ptr rfl rfl) rfl ?_
      refine RD.opgv (v' := .d (.int _ _)) rfl (opv_load_ptr rfl rfl) rfl ?_
      refine RD.opgv (v' := .d (encL _)) rfl (opv_load_ptr rfl rfl) rfl ?_
      refine RD.opgv (v' := .ref 0 3) rfl (opv_field_ref rfl rfl) rfl ?_
      refine RD.opgv (v' := .d (.list (encs _))) rfl (opv_load_ref rfl rfl rfl) rfl ?_
      refine RD.opgv (v' := .d (.ptr _)) rfl (opv_index_terms (i := 0) rfl rfl hk0) rfl ?_
      refine RD.opgv (v' := .d (.ptr _)) rfl (opv_field_ptr rfl) rfl ?_
      refine RD.opgv (v' := .d (.int _ _)) rfl (opv_load_ptr rfl rfl) rfl ?_
      refine RD.opgv (v' := .d (.int _ _)) rfl (opv_callF (clevel_fn l hl _) rfl rfl rfl trivial) rfl ?_
      refine RD.opgv (v' := .d (.bool _)) rfl (opv_callF (leq_fn l hl _ _) rfl rfl rfl trivial) rfl ?_
      refine RD.opgv (v' := .d (.bool _)) rfl (opv_not rfl rfl) rfl ?_
      refine RD.opgv (v' := .d (.bool _)) rfl (opv_pick rfl rfl) rfl ?_
      refine RD.opv (v' := .d (.bool _)) (opv_pick rfl rfl) rfl ?_
      refine RD.opv (v' := .d (.bool _)) (opv_assign rfl) rfl ?_
      refine RD.nil ?_
      refine thenQ_normal ?_
      refine Runs.ret ?_
      refine EndQ.tmp (.inr rfl) rfl rfl 0 (by exact Nat.le_refl _) (by exact Nat.zero_le _) trivial ⟨?_, rfl⟩
      refine bool_eq ?_
      unfold lowP
      first
        | (rw [hw]; rfl)
        | (rw [hw, ← kid_eq hk0, Bool.true_and, decide_not, hkd]; rfl)
  · skip
    have hw : p.isN bWrite 2 = false := h1
    refine RD.off rfl ?_
    refine RD.off rfl ?_
    refine RD.off rfl ?_
    refine RD.off rfl ?_
    refine RD.off rfl ?_
    refine RD.off rfl ?_
    refine RD.off rfl ?_
    refine RD.off rfl ?_
    refine RD.off rfl ?_
    refine RD.off rfl ?_
    refine RD.off rfl ?_
    refine RD.off rfl ?_
    refine RD.off rfl ?_
    refine RD.off rfl ?_
    refine RD.off rfl ?_
    refine RD.off rfl ?_
    refine RD.off rfl ?_
    refine RD.off rfl ?_
    refine RD.off rfl ?_
    refine RD.opv (v' := .d (.bool false)) (opv_pick rfl rfl) rfl ?_
    refine RD.opv (v' := .d (.bool false)) (opv_assign rfl) rfl ?_
    refine RD.nil ?_
    refine thenQ_normal ?_
    refine Runs.ret ?_
    refine EndQ.tmp (.inr rfl) rfl rfl 0 (by exact Nat.le_refl _) (by exact Nat.zero_le _) trivial ⟨?_, rfl⟩
    refine bool_eq ?_
    unfold lowP
    first
      | (rw [hw]; rfl)
      | (rw [hw, ← kid_eq hk0, Bool.true_and, decide_not, hkd]; rfl)
theorem reason_fn (l : Lt) (hl : l.Ok) (t : Term) (b : Int) (hb : t.bulk ≤ 2 ^ 30) : Fn Try.prog 41 [.d (encL l), .d (enc t), .d (.int .i64 b)] [] (.d (.str (reasonB l t b))) [] := by
  refine Does.run Try.func41 rfl Try.ntmps41 rfl fun K hK => ?_
  refine Runs.rseq ?_
  refine RO.opn (v' := .ref 0 0) (O' := [_]) (opv_box rfl rfl) rfl rfl ?_
  refine RO.opn (v' := .ref 1 0) (O' := [_, _]) (opv_box_term rfl) rfl rfl ?_
  refine RO.opn (v' := .ref 2 0) (O' := [_, _, _]) (opv_box rfl rfl) rfl rfl ?_
  refine RO.opv (v' := .d (.str _)) (opv_assign rfl) rfl ?_
  refine RO.nil ?_
  refine Runs.has [(3, .ref 0 0), (4, .ref 1 0), (5, .ref 2 0), (6, .d (.str _))] ⟨rfl, rfl, rfl, rfl, trivial⟩ ?_
  refine Runs.freeze 3 rfl rfl rfl ?_
  refine Runs.freeze 5 rfl rfl rfl ?_
  refine Runs.seq ?_
  refine Runs.drawn (by kernel_rfl) [] [false, false, false, false, false] [false, false, false, false, false] (by decide +kernel) ?_
  refine RD.opv (v' := .d (.int _ _)) (opv_load_ptr rfl rfl) rfl ?_
  refine RD.opv (v' := .d (encL _)) (opv_load_ptr rfl rfl) rfl ?_
  refine RD.opv (v' := .d (.int _ _)) (opv_callF (lbot_fn l hl) rfl rfl rfl trivial) rfl ?_
  refine RD.opv (v' := .d (.bool _)) (opv_bin rfl rfl rfl) rfl ?_
  refine RD.opv (v' := .d (.bool _)) (opv_assign rfl) rfl ?_
  refine RD.nil ?_
  refine thenQ_normal ?_
  refine Runs.has [(3, .d (.ptr _)), (4, .ref 1 0), (5, .d (.ptr _)), (6, .d (.str _)), (7, .d (.bool _))] ⟨rfl, rfl, rfl, rfl, rfl, trivial⟩ ?_
  refine Runs.rseq ?_
  refine RO.opn (v' := .fn 64 _) (O' := [_, _, _]) (opv_makeFunc rfl) rfl rfl ?_
  refine RO.opv (v' := .fn 64 _) (opv_assign rfl) rfl ?_
  refine RO.nil ?_
  refine Runs.has [(4, .ref 1 0), (6, .d (.str _)), (7, .d (.bool _)), (8, .fn 64 _)] ⟨rfl, rfl, rfl, rfl, trivial⟩ ?_
  refine Runs.seq ?_
  refine Runs.block ?_
  refine Runs.rseq ?_
  refine RO.opv (v' := .d (.bool _)) (opv_move rfl) rfl ?_
  refine RO.opc (opv_move rfl) (fun h1 => ?_) (fun h1 => ?_)
  · skip
    have hl3 := h1
    have hL : decide (¬ b = l.bottom) = true := by simpa using h1
    refine RO.opgv (v' := .d (enc _)) rfl (opv_load_term rfl rfl rfl) rfl ?_
    refine RO.opgv (v' := .d (.bool _)) rfl (opv_callF (open_fn t hb) rfl rfl rfl trivial) rfl ?_
    refine RO.opv (v' := .d (.bool _)) (opv_pick rfl rfl) rfl ?_
    refine RO.opc (opv_assign rfl) (fun h2 => ?_) (fun h2 => ?_)
    · skip
      have ho := h2
      refine RO.nil ?_
      refine Runs.condT rfl ?_
      refine Runs.has [(6, .d (.str _))] ⟨rfl, trivial⟩ ?_
      refine Runs.rseq ?_
      refine RO.opv (v' := .d (.str _)) (opv_assign rfl) rfl ?_
      refine RO.nil ?_
      refine Runs.ret ?_
      refine blockQ_ret ?_
      refine thenQ_ret ?_
      refine EndQ.tmp (.inr rfl) rfl rfl 0 (by exact Nat.le_refl _) (by exact Nat.zero_le _) trivial ⟨?_, rfl⟩
      refine str_eq ?_; unfold reasonB; rw [hL, ho]; rfl
    · skip
      have ho := h2
      refine RO.nil ?_
      refine Runs.condF rfl ?_
      refine Runs.has [(4, .ref 1 0), (6, .d (.str _)), (7, .d (.bool _)), (8, .fn 64 _)] ⟨rfl, rfl, rfl, rfl, trivial⟩ ?_
      refine Runs.rseq ?_
      refine RO.opv (v' := .d (.bool _)) (opv_move rfl) rfl ?_
      refine RO.opc (opv_move rfl) (fun h3 => ?_) (fun h3 => ?_)
      · skip
        refine RO.opgv (v' := .d (enc _)) rfl (opv_load_term rfl rfl rfl) rfl ?_
        refine RO.opgv (v' := .d (.bool _)) rfl (opv_callF (some_fn t hb 68 [] trivial (fun p => p.isN bCall 1) (fun p _ => rcall_fn p)) rfl rfl rfl trivial) rfl ?_
        refine RO.opv (v' := .d (.bool _)) (opv_pick rfl rfl) rfl ?_
        refine RO.opc (opv_assign rfl) (fun h4 => ?_) (fun h4 => ?_)
        · skip
          have hc := h4
          refine RO.nil ?_
          refine Runs.condT rfl ?_
          refine Runs.has [(6, .d (.str _))] ⟨rfl, trivial⟩ ?_
          refine Runs.rseq ?_
          refine RO.opv (v' := .d (.str _)) (opv_assign rfl) rfl ?_
          refine RO.nil ?_
          refine Runs.ret ?_
          refine blockQ_ret ?_
          refine thenQ_ret ?_
          refine EndQ.tmp (.inr rfl) rfl rfl 0 (by exact Nat.le_refl _) (by exact Nat.zero_le _) trivial ⟨?_, rfl⟩
          refine str_eq ?_; unfold reasonB; rw [hL, ho, hc]; rfl
        · skip
          have hc := h4
          refine RO.nil ?_
          refine Runs.condF rfl ?_
          refine Runs.has [(4, .ref 1 0), (6, .d (.str _)), (7, .d (.bool _)), (8, .fn 64 _)] ⟨rfl, rfl, rfl, rfl, trivial⟩ ?_
          refine Runs.rseq ?_
          refine RO.opv (v' := .d (enc _)) (opv_load_term rfl rfl rfl) rfl ?_
          refine RO.opv (v' := .d (.bool _)) (opv_callF (some_fn t hb 69 [] trivial (fun p => p.isN bDecl 4) (fun p _ => rdecl_fn p)) rfl rfl rfl trivial) rfl ?_
          refine RO.opc (opv_assign rfl) (fun h5 => ?_) (fun h5 => ?_)
          · skip
            have hd := h5
            refine RO.nil ?_
            refine Runs.condT rfl ?_
            refine Runs.has [(6, .d (.str _))] ⟨rfl, trivial⟩ ?_
            refine Runs.rseq ?_
            refine RO.opv (v' := .d (.str _)) (opv_assign rfl) rfl ?_
            refine RO.nil ?_
            refine Runs.ret ?_
            refine blockQ_ret ?_
            refine thenQ_ret ?_
            refine EndQ.tmp (.inr rfl) rfl rfl 0 (by exact Nat.le_refl _) (by exact Nat.zero_le _) trivial ⟨?_, rfl⟩
            refine str_eq ?_; unfold reasonB; rw [hL, ho, hc, hd]; rfl
          · skip
            have hd := h5
            refine RO.nil ?_
            refine Runs.condF rfl ?_
            refine Runs.has [(4, .ref 1 0), (6, .d (.str _)), (7, .d (.bool _)), (8, .fn 64 _)] ⟨rfl, rfl, rfl, rfl, trivial⟩ ?_
            refine Runs.rseq ?_
            refine RO.opv (v' := .d (.bool _)) (opv_move rfl) rfl ?_
            refine RO.opc (opv_move rfl) (fun h6 => ?_) (fun h6 => ?_)
            · skip
              refine RO.opgv (v' := .d (enc _)) rfl (opv_load_term rfl rfl rfl) rfl ?_
              refine RO.opgv (v' := .fn 64 _) rfl (opv_move rfl) rfl ?_
              refine RO.opgv (v' := .d (.bool _)) rfl (opv_callF (some_fn t hb 64 [.d (.ptr [encL l]), .d (.ptr [.int .i64 b])] ⟨trivial, trivial, trivial⟩ (lowP l b) (fun p _ => rlow_fn l hl b p)) rfl rfl rfl trivial) rfl ?_
              refine RO.opv (v' := .d (.bool _)) (opv_pick rfl rfl) rfl ?_
              refine RO.opc (opv_assign rfl) (fun h7 => ?_) (fun h7 => ?_)
              · skip
                have hw := h7
                refine RO.nil ?_
                refine Runs.condT rfl ?_
                refine Runs.has [(6, .d (.str _))] ⟨rfl, trivial⟩ ?_
                refine Runs.rseq ?_
                refine RO.opv (v' := .d (.str _)) (opv_assign rfl) rfl ?_
                refine RO.nil ?_
                refine Runs.ret ?_
                refine blockQ_ret ?_
                refine thenQ_ret ?_
                refine EndQ.tmp (.inr rfl) rfl rfl 0 (by exact Nat.le_refl _) (by exact Nat.zero_le _) trivial ⟨?_, rfl⟩
                refine str_eq ?_; unfold reasonB; rw [hL, ho, hc, hd, hw]; rfl
              · skip
                have hw := h7
                refine RO.nil ?_
                refine Runs.condF rfl ?_
                refine Runs.skip ?_
                refine blockQ_normal ?_
                refine thenQ_normal ?_
                refine Runs.has [(6, .d (.str _))] ⟨rfl, trivial⟩ ?_
                refine Runs.rseq ?_
                refine RO.opv (v' := .d (.str _)) (opv_assign rfl) rfl ?_
                refine RO.nil ?_
                refine Runs.ret ?_
                refine EndQ.tmp (.inr rfl) rfl rfl 0 (by exact Nat.le_refl _) (by exact Nat.zero_le _) trivial ⟨?_, rfl⟩
                refine str_eq ?_; unfold reasonB; rw [hL, ho, hc, hd, hw]; rfl
            · skip
              rw [hl3] at h6; cases h6
      · skip
        rw [hl3] at h3; cases h3
  · skip
    have hl3 := h1
    have hL : decide (¬ b = l.bottom) = false := by simpa using h1
    refine RO.off rfl ?_
    refine RO.off rfl ?_
    refine RO.opv (v' := .d (.bool false)) (opv_pick rfl rfl) rfl ?_
    refine RO.opv (v' := .d (.bool false)) (opv_assign rfl) rfl ?_
    refine RO.nil ?_
    refine Runs.condF rfl ?_
    refine Runs.has [(4, .ref 1 0), (6, .d (.str _)), (7, .d (.bool _)), (8, .fn 64 _)] ⟨rfl, rfl, rfl, rfl, trivial⟩ ?_
    refine Runs.rseq ?_
    refine RO.opv (v' := .d (.bool _)) (opv_move rfl) rfl ?_
    refine RO.opc (opv_move rfl) (fun h8 => ?_) (fun h8 => ?_)
    · skip
      rw [hl3] at h8; cases h8
    · skip
      refine RO.off rfl ?_
      refine RO.off rfl ?_
      refine RO.opv (v' := .d (.bool false)) (opv_pick rfl rfl) rfl ?_
      refine RO.opv (v' := .d (.bool false)) (opv_assign rfl) rfl ?_
      refine RO.nil ?_
      refine Runs.condF rfl ?_
      refine Runs.has [(4, .ref 1 0), (6, .d (.str _)), (7, .d (.bool _)), (8, .fn 64 _)] ⟨rfl, rfl, rfl, rfl, trivial⟩ ?_
      refine Runs.rseq ?_
      refine RO.opv (v' := .d (enc _)) (opv_load_term rfl rfl rfl) rfl ?_
      refine RO.opv (v' := .d (.bool _)) (opv_callF (some_fn t hb 69 [] trivial (fun p => p.isN bDecl 4) (fun p _ => rdecl_fn p)) rfl rfl rfl trivial) rfl ?_
      refine RO.opc (opv_assign rfl) (fun h9 => ?_) (fun h9 => ?_)
      · skip
        have hd := h9
        refine RO.nil ?_
        refine Runs.condT rfl ?_
        refine Runs.has [(6, .d (.str _))] ⟨rfl, trivial⟩ ?_
        refine Runs.rseq ?_
        refine RO.opv (v' := .d (.str _)) (opv_assign rfl) rfl ?_
        refine RO.nil ?_
        refine Runs.ret ?_
        refine blockQ_ret ?_
        refine thenQ_ret ?_
        refine EndQ.tmp (.inr rfl) rfl rfl 0 (by exact Nat.le_refl _) (by exact Nat.zero_le _) trivial ⟨?_, rfl⟩
        refine str_eq ?_; unfold reasonB; rw [hL, hd]; rfl
      · skip
        have hd := h9
        refine RO.nil ?_
        refine Runs.condF rfl ?_
        refine Runs.has [(4, .ref 1 0), (6, .d (.str _)), (7, .d (.bool _)), (8, .fn 64 _)] ⟨rfl, rfl, rfl, rfl, trivial⟩ ?_
        refine Runs.rseq ?_
        refine RO.opv (v' := .d (.bool _)) (opv_move rfl) rfl ?_
        refine RO.opc (opv_move rfl) (fun h10 => ?_) (fun h10 => ?_)
        · skip
          rw [hl3] at h10; cases h10
        · skip
          refine RO.off rfl ?_
          refine RO.off rfl ?_
          refine RO.off rfl ?_
          refine RO.opv (v' := .d (.bool false)) (opv_pick rfl rfl) rfl ?_
          refine RO.opv (v' := .d (.bool false)) (opv_assign rfl) rfl ?_
          refine RO.nil ?_
          refine Runs.condF rfl ?_
          refine Runs.skip ?_
          refine blockQ_normal ?_
          refine thenQ_normal ?_
          refine Runs.has [(6, .d (.str _))] ⟨rfl, trivial⟩ ?_
          refine Runs.rseq ?_
          refine RO.opv (v' := .d (.str _)) (opv_assign rfl) rfl ?_
          refine RO.nil ?_
          refine Runs.ret ?_
          refine EndQ.tmp (.inr rfl) rfl rfl 0 (by exact Nat.le_refl _) (by exact Nat.zero_le _) trivial ⟨?_, rfl⟩
          refine str_eq ?_; unfold reasonB; rw [hL, hd]; rfl
theorem accept_fn (l : Lt) (hl : l.Ok) (o : Option (List Cl)) (gs : List Term) (lv : Int) (hc : (allB o).length ≤ 2 ^ 20) (hs : ∀ c ∈ allB o, c.small (2 ^ 30)) (hg : bulks gs ≤ 2 ^ 28) : Fn Try.prog 15 [.d (encL l), .d (encOB l o), .d (.list (encs gs)), .d (.int .i64 lv)] [] (.tup [.d (.bool (acceptB l o gs lv).1), .d (.str (acceptB l o gs lv).2)]) [] := by
  have hgL := bulks_len gs
  have htl := textsC_len (allB o)
  have hTl : (textsC (allB o) ++ gs).length = 2 * (allB o).length + gs.length := by rw [List.length_append, htl]
  refine Does.run Try.func15 rfl Try.ntmps15 rfl fun K hK => ?_
  refine Runs.rseq ?_
  refine RO.opv (v' := .d (.bool false)) (opv_assign rfl) rfl ?_
  refine RO.opv (v' := .d (.str _)) (opv_assign rfl) rfl ?_
  refine RO.nil ?_
  refine Runs.seq ?_
  refine Runs.rseq ?_
  refine RO.opv (v' := .d (encL _)) (opv_move rfl) rfl ?_
  refine RO.opv (v' := .d (.int _ _)) (opv_callF (llen_fn l) rfl rfl rfl trivial) rfl ?_
  refine RO.nil ?_
  refine Runs.block ?_
  refine Runs.has [(0, .d (encL _)), (1, .d (encOB _ _)), (2, .d (.list (encs _))), (3, .d (.int _ _)), (8, .d (.bool false)), (9, .d (.str _)), (20, .d (.int _ _))] ⟨rfl, rfl, rfl, rfl, rfl, rfl, rfl, trivial⟩ ?_
  refine Runs.rseq ?_
  refine RO.opv (v' := .d (.bool _)) (opv_bin rfl rfl rfl) rfl ?_
  refine RO.opc (opv_assign rfl) (fun h1 => ?_) (fun h1 => ?_)
  · try simp only [Z.a, Z.b, Z.c, Z.d, Z.e, Z.f, Z.g, Z.h, Z.i, Z.j, Z.k, Z.l, Z.m] at h1
    have hn0 : l.n = 0 := by omega
    refine RO.nil ?_
    refine Runs.condT rfl ?_
    refine Runs.has [(0, .d (encL _)), (1, .d (encOB _ _)), (2, .d (.list (encs _))), (3, .d (.int _ _)), (8, .d (.bool false)), (9, .d (.str _))] ⟨rfl, rfl, rfl, rfl, rfl, rfl, trivial⟩ ?_
    refine Runs.rseq ?_
    refine RO.opv (v' := .d (.bool false)) (opv_assign rfl) rfl ?_
    refine RO.opv (v' := .d (.str _)) (opv_assign rfl) rfl ?_
    refine RO.nil ?_
    refine Runs.ret ?_
    refine blockQ_ret ?_
    refine thenQ_ret ?_
    refine EndQ.tmps2 (.inr rfl) rfl rfl rfl 0 (by exact Nat.le_refl _) (by exact Nat.zero_le _) ⟨trivial, trivial, trivial⟩ ⟨?_, rfl⟩
    unfold acceptB; rw [if_pos hn0]; rfl
  · try simp only [Z.a, Z.b, Z.c, Z.d, Z.e, Z.f, Z.g, Z.h, Z.i, Z.j, Z.k, Z.l, Z.m] at h1
    have hn0 : ¬ l.n = 0 := by omega
    refine RO.nil ?_
    refine Runs.condF rfl ?_
    refine Runs.has [(0, .d (encL _)), (1, .d (encOB _ _)), (2, .d (.list (encs _))), (3, .d (.int _ _)), (8, .d (.bool false)), (9, .d (.str _)), (20, .d (.int _ _))] ⟨rfl, rfl, rfl, rfl, rfl, rfl, rfl, trivial⟩ ?_
    refine Runs.rseq ?_
    refine RO.opv (v' := .d (.bool _)) (opv_bin rfl rfl rfl) rfl ?_
    refine RO.opc (opv_assign rfl) (fun h2 => ?_) (fun h2 => ?_)
    · try simp only [Z.a, Z.b, Z.c, Z.d, Z.e, Z.f, Z.g, Z.h, Z.i, Z.j, Z.k, Z.l, Z.m] at h2
      have hn1 : l.n = 1 := by omega
      refine RO.nil ?_
      refine Runs.condT rfl ?_
      refine Runs.has [(0, .d (encL _)), (1, .d (encOB _ _)), (2, .d (.list (encs _))), (3, .d (.int _ _)), (8, .d (.bool false)), (9, .d (.str _))] ⟨rfl, rfl, rfl, rfl, rfl, rfl, trivial⟩ ?_
      refine Runs.rseq ?_
      refine RO.opv (v' := .d (.bool true)) (opv_assign rfl) rfl ?_
      refine RO.opv (v' := .d (.str _)) (opv_assign rfl) rfl ?_
      refine RO.nil ?_
      refine Runs.ret ?_
      refine blockQ_ret ?_
      refine thenQ_ret ?_
      refine EndQ.tmps2 (.inr rfl) rfl rfl rfl 0 (by exact Nat.le_refl _) (by exact Nat.zero_le _) ⟨trivial, trivial, trivial⟩ ⟨?_, rfl⟩
      unfold acceptB; rw [if_neg hn0, if_pos hn1]; rfl
    · try simp only [Z.a, Z.b, Z.c, Z.d, Z.e, Z.f, Z.g, Z.h, Z.i, Z.j, Z.k, Z.l, Z.m] at h2
      have hn1 : ¬ l.n = 1 := by omega
      refine RO.nil ?_
      refine Runs.condF rfl ?_
      refine Runs.skip ?_
      refine blockQ_normal ?_
      refine thenQ_normal ?_
      refine Runs.has [(0, .d (encL _)), (1, .d (encOB _ _)), (2, .d (.list (encs _))), (3, .d (.int _ _)), (8, .d (.bool false)), (9, .d (.str _))] ⟨rfl, rfl, rfl, rfl, rfl, rfl, trivial⟩ ?_
      refine Runs.rseq ?_
      refine RO.opv (v' := .d (encL _)) (opv_move rfl) rfl ?_
      refine RO.opv (v' := .d (.int _ _)) (opv_move rfl) rfl ?_
      refine RO.opv (v' := .d (.int _ _)) (opv_callF (clevel_fn l hl lv) rfl rfl rfl trivial) rfl ?_
      refine RO.opv (v' := .d (.int _ _)) (opv_assign rfl) rfl ?_
      refine RO.nil ?_
      refine Runs.has [(0, .d (encL _)), (1, .d (encOB _ _)), (2, .d (.list (encs _))), (8, .d (.bool false)), (9, .d (.str _)), (10, .d (.int _ _))] ⟨rfl, rfl, rfl, rfl, rfl, rfl, trivial⟩ ?_
      refine Runs.seq ?_
      refine Runs.rseq ?_
      refine RO.opv (v' := .d (encOB _ _)) (opv_move rfl) rfl ?_
      refine RO.opc (opv_nenil_ob rfl rfl) (fun h3 => ?_) (fun h3 => ?_)
      · try simp only [Z.a, Z.b, Z.c, Z.d, Z.e, Z.f, Z.g, Z.h, Z.i, Z.j, Z.k, Z.l, Z.m] at h3
        have hon : bound0 l o lv = l.join (l.lev lv) (topO l o) := by unfold bound0; rw [show o.isNone = false from by simpa using h3]; rfl
        refine RO.nil ?_
        refine Runs.condT rfl ?_
        refine Runs.has [(0, .d (encL _)), (1, .d (encOB _ _)), (2, .d (.list (encs _))), (8, .d (.bool false)), (9, .d (.str _)), (10, .d (.int _ _))] ⟨rfl, rfl, rfl, rfl, rfl, rfl, trivial⟩ ?_
        refine Runs.region ?_
        refine RO.opv (v' := .d (encL _)) (opv_move rfl) rfl ?_
        refine RO.opv (v' := .d (.int _ _)) (opv_move rfl) rfl ?_
        refine RO.opv (v' := .d (encOB _ _)) (opv_move rfl) rfl ?_
        refine RO.opv (v' := .d (.int _ _)) (opv_callF (top_fn l hl o hc hs) rfl rfl rfl trivial) rfl ?_
        refine RO.opv (v' := .d (.int _ _)) (opv_callF (ljoin_fn l hl _ _) rfl rfl rfl trivial) rfl ?_
        refine RO.opv (v' := .d (.int _ _)) (opv_assign rfl) rfl ?_
        refine RO.nil ?_
        refine thenQ_normal ?_
        refine Runs.has [(0, .d (encL _)), (1, .d (encOB _ _)), (2, .d (.list (encs _))), (8, .d (.bool false)), (9, .d (.str _)), (10, .d (.int _ _))] ⟨rfl, rfl, rfl, rfl, rfl, rfl, trivial⟩ ?_
        refine Runs.rseq ?_
        refine RO.opv (v' := .nil0) (opv_assign rfl) rfl ?_
        refine RO.nil ?_
        refine Runs.seq ?_
        refine Runs.adopt 11 47 4 rfl ?_
        refine Runs.rseq ?_
        refine RO.opv (v' := .d (encOB _ _)) (opv_move rfl) rfl ?_
        refine RO.opv (v' := .d (.list (encCls _))) (opv_callF (all_fn l o hc) rfl rfl rfl trivial) rfl ?_
        refine RO.opv (v' := .d (.int _ _)) (opv_len_cls rfl) rfl ?_
        refine RO.opv (v' := .d (.int _ _)) (opv_move rfl) rfl ?_
        refine RO.nil ?_
        refine Runs.block ?_
        refine Runs.loopC (X := Nat) (fun i => i ≤ (allB o).length) (fun i => (allB o).length - i) [(0, .d (encL _)), (2, .d (.list (encs _))), (8, .d (.bool false)), (9, .d (.str _)), (10, .d (.int _ _)), (36, .d (.list (encCls _))), (37, .d (.int _ _))] (fun i => [(11, .own 0 (1 + i)), (38, .d (.int .i64 (i : Nat)))]) [] (fun i => [.buf 47 4 (encs (textsC ((allB o).take i))) (1 + i)]) (0) ⟨rfl, rfl, rfl, rfl, rfl, rfl, rfl, trivial⟩ ⟨rfl, rfl, trivial⟩ rfl (by omega) fun i hi => ?_
        refine Runs.rseq ?_
        refine RO.opc (opv_bin rfl rfl rfl) (fun h4 => ?_) (fun h4 => ?_)
        · try simp only [Z.a, Z.b, Z.c, Z.d, Z.e, Z.f, Z.g, Z.h, Z.i, Z.j, Z.k, Z.l, Z.m] at h4
          have hk : i < (allB o).length := by omega
          refine RO.nil ?_
          refine Runs.seq ?_
          refine Runs.condT rfl ?_
          refine Runs.skip ?_
          refine thenQ_normal ?_
          refine Runs.has [(0, .d (encL _)), (2, .d (.list (encs _))), (8, .d (.bool false)), (9, .d (.str _)), (10, .d (.int _ _)), (11, .own 0 _), (36, .d (.list (encCls _))), (37, .d (.int _ _)), (38, .d (.int _ _))] ⟨rfl, rfl, rfl, rfl, rfl, rfl, rfl, rfl, rfl, trivial⟩ ?_
          refine Runs.seq ?_
          refine Runs.block ?_
          refine Runs.rseq ?_
          refine RO.opv (v' := .d (.ptr _)) (opv_index_cls rfl rfl hk) rfl ?_
          refine RO.opv (v' := .d (encCl _)) (opv_load_pcl rfl) rfl ?_
          refine RO.opn (v' := .ref 1 0) (O' := [_, _]) (opv_alloc) rfl rfl ?_
          refine RO.op0n (O' := [_, _]) (opv_store_cl rfl rfl rfl rfl) rfl ?_
          refine RO.nil ?_
          refine Runs.has [(0, .d (encL _)), (2, .d (.list (encs _))), (8, .d (.bool false)), (9, .d (.str _)), (10, .d (.int _ _)), (11, .own 0 _), (13, .ref 1 0), (36, .d (.list (encCls _))), (37, .d (.int _ _)), (38, .d (.int _ _))] ⟨rfl, rfl, rfl, rfl, rfl, rfl, rfl, rfl, rfl, rfl, trivial⟩ ?_
          refine Runs.region ?_
          refine RO.opv (v' := .own 0 _) (opv_move rfl) rfl ?_
          refine RO.opv (v' := .ref 1 1) (opv_field_ref rfl rfl) rfl ?_
          refine RO.opv (v' := .d (enc _)) (opv_load_term rfl rfl rfl) rfl ?_
          refine RO.opv (v' := .ref 1 5) (opv_field_ref rfl rfl) rfl ?_
          refine RO.opv (v' := .d (enc _)) (opv_load_term rfl rfl rfl) rfl ?_
          refine RO.opv (v' := .d (.list (encs _))) (opv_bs_term2 rfl rfl ) rfl ?_
          refine RO.opn (v' := .own 0 _) (O' := [_, _]) (opv_append_terms rfl rfl rfl (by rw [textsC_len]; simp; omega)) rfl rfl ?_
          refine RO.opv (v' := .own 0 _) (opv_assign rfl) rfl ?_
          refine RO.nil ?_
          refine blockQ_normal ?_
          refine thenQ_normal ?_
          refine Runs.has [(0, .d (encL _)), (2, .d (.list (encs _))), (8, .d (.bool false)), (9, .d (.str _)), (10, .d (.int _ _)), (11, .own 0 _), (36, .d (.list (encCls _))), (37, .d (.int _ _)), (38, .d (.int _ _))] ⟨rfl, rfl, rfl, rfl, rfl, rfl, rfl, rfl, rfl, trivial⟩ ?_
          refine Runs.region ?_
          refine RO.opv (v' := .d (.int _ _)) (opv_bin rfl rfl rfl) rfl ?_
          refine RO.opv (v' := .d (.int _ _)) (opv_move rfl) rfl ?_
          refine RO.nil ?_
          refine thenQ_normal ?_
          refine ⟨i + 1, 1, (by rw [hK]; exact Nat.le_of_ble_eq_true rfl), ⟨rfl, rfl, rfl, rfl, rfl, rfl, rfl, trivial⟩, ⟨?_, ?_, trivial⟩, ?_, ?_, ?_⟩
          · rfl
          · refine int_eq ?_; rw [wrap64 (by omega) (by omega)]; omega
          · rw [textsC_take hk]; rfl
          · omega
          · omega
        · try simp only [Z.a, Z.b, Z.c, Z.d, Z.e, Z.f, Z.g, Z.h, Z.i, Z.j, Z.k, Z.l, Z.m] at h4
          have hk : i = (allB o).length := by omega
          refine RO.nil ?_
          refine Runs.seq ?_
          refine Runs.condF rfl ?_
          refine Runs.exit ?_
          refine thenQ_exit ?_
          refine thenQ_exit ?_
          refine blockQ_here ?_
          refine thenQ_normal ?_
          refine Runs.has [(0, .d (encL _)), (2, .d (.list (encs _))), (8, .d (.bool false)), (9, .d (.str _)), (10, .d (.int _ _)), (11, .own 0 _)] ⟨rfl, rfl, rfl, rfl, rfl, rfl, trivial⟩ ?_
          refine Runs.seq ?_
          refine Runs.rseq ?_
          refine RO.opv (v' := .d (.list (encs _))) (opv_move rfl) rfl ?_
          refine RO.opv (v' := .d (.int _ _)) (opv_len_terms rfl) rfl ?_
          refine RO.opv (v' := .d (.int _ _)) (opv_move rfl) rfl ?_
          refine RO.nil ?_
          refine Runs.block ?_
          rw [hk, List.take_length]
          refine Runs.loopC (X := Nat) (fun i => i ≤ gs.length) (fun i => gs.length - i) [(0, .d (encL _)), (8, .d (.bool false)), (9, .d (.str _)), (50, .d (.list (encs _))), (51, .d (.int _ _))] (fun i => [(10, .d (.int .i64 (boundG l (bound0 l o lv) (gs.take i)))), (11, .own 0 (1 + (allB o).length + i)), (52, .d (.int .i64 (i : Nat)))]) [] (fun i => [.buf 47 4 (encs (textsC (allB o) ++ gs.take i)) (1 + (allB o).length + i)]) (0) ⟨rfl, rfl, rfl, rfl, rfl, trivial⟩ ⟨(by rw [hon]; rfl), rfl, rfl, trivial⟩ (by simp) (by omega) fun i hi => ?_
          refine Runs.rseq ?_
          refine RO.opc (opv_bin rfl rfl rfl) (fun h5 => ?_) (fun h5 => ?_)
          · try simp only [Z.a, Z.b, Z.c, Z.d, Z.e, Z.f, Z.g, Z.h, Z.i, Z.j, Z.k, Z.l, Z.m] at h5
            have hk : i < gs.length := by omega
            have hgb := bulks_mem (List.getElem_mem hk)
            refine RO.nil ?_
            refine Runs.seq ?_
            refine Runs.condT rfl ?_
            refine Runs.skip ?_
            refine thenQ_normal ?_
            refine Runs.has [(0, .d (encL _)), (8, .d (.bool false)), (9, .d (.str _)), (10, .d (.int _ _)), (11, .own 0 _), (50, .d (.list (encs _))), (51, .d (.int _ _)), (52, .d (.int _ _))] ⟨rfl, rfl, rfl, rfl, rfl, rfl, rfl, rfl, trivial⟩ ?_
            refine Runs.seq ?_
            refine Runs.block ?_
            refine Runs.rseq ?_
            refine RO.opv (v' := .d (.ptr _)) (opv_index_terms rfl rfl hk) rfl ?_
            refine RO.opv (v' := .d (enc _)) (opv_load_pterm rfl) rfl ?_
            refine RO.opn (v' := .ref 1 0) (O' := [_, _]) (opv_alloc) rfl rfl ?_
            refine RO.op0n (O' := [_, _]) (opv_store_term rfl rfl rfl (Nat.le_of_ble_eq_true rfl)) rfl ?_
            refine RO.nil ?_
            refine Runs.has [(0, .d (encL _)), (8, .d (.bool false)), (9, .d (.str _)), (10, .d (.int _ _)), (11, .own 0 _), (15, .ref 1 0), (50, .d (.list (encs _))), (51, .d (.int _ _)), (52, .d (.int _ _))] ⟨rfl, rfl, rfl, rfl, rfl, rfl, rfl, rfl, rfl, trivial⟩ ?_
            refine Runs.rseq ?_
            refine RO.opv (v' := .d (encL _)) (opv_move rfl) rfl ?_
            refine RO.opv (v' := .d (.int _ _)) (opv_move rfl) rfl ?_
            refine RO.opv (v' := .d (encL _)) (opv_move rfl) rfl ?_
            refine RO.opv (v' := .d (enc _)) (opv_load_term rfl rfl rfl) rfl ?_
            refine RO.opv (v' := .d (.int _ _)) (opv_callF (sjoin_fn l hl gs[i] (by omega)) rfl rfl rfl trivial) rfl ?_
            refine RO.opv (v' := .d (.int _ _)) (opv_callF (ljoin_fn l hl _ _) rfl rfl rfl trivial) rfl ?_
            refine RO.opv (v' := .d (.int _ _)) (opv_assign rfl) rfl ?_
            refine RO.nil ?_
            refine Runs.has [(0, .d (encL _)), (8, .d (.bool false)), (9, .d (.str _)), (10, .d (.int _ _)), (11, .own 0 _), (15, .ref 1 0), (50, .d (.list (encs _))), (51, .d (.int _ _)), (52, .d (.int _ _))] ⟨rfl, rfl, rfl, rfl, rfl, rfl, rfl, rfl, rfl, trivial⟩ ?_
            refine Runs.region ?_
            refine RO.opv (v' := .own 0 _) (opv_move rfl) rfl ?_
            refine RO.opv (v' := .d (enc _)) (opv_load_term rfl rfl rfl) rfl ?_
            refine RO.opv (v' := .d (.list (encs _))) (opv_bs_term1 rfl ) rfl ?_
            refine RO.opn (v' := .own 0 _) (O' := [_, _]) (opv_append_terms rfl rfl rfl (by rw [List.length_append, textsC_len]; simp; omega)) rfl rfl ?_
            refine RO.opv (v' := .own 0 _) (opv_assign rfl) rfl ?_
            refine RO.nil ?_
            refine blockQ_normal ?_
            refine thenQ_normal ?_
            refine Runs.has [(0, .d (encL _)), (8, .d (.bool false)), (9, .d (.str _)), (10, .d (.int _ _)), (11, .own 0 _), (50, .d (.list (encs _))), (51, .d (.int _ _)), (52, .d (.int _ _))] ⟨rfl, rfl, rfl, rfl, rfl, rfl, rfl, rfl, trivial⟩ ?_
            refine Runs.region ?_
            refine RO.opv (v' := .d (.int _ _)) (opv_bin rfl rfl rfl) rfl ?_
            refine RO.opv (v' := .d (.int _ _)) (opv_move rfl) rfl ?_
            refine RO.nil ?_
            refine thenQ_normal ?_
            refine ⟨i + 1, 1, (by rw [hK]; exact Nat.le_of_ble_eq_true rfl), ⟨rfl, rfl, rfl, rfl, rfl, trivial⟩, ⟨?_, ?_, ?_, trivial⟩, ?_, ?_, ?_⟩
            · refine int_eq ?_; rw [boundG_take hk]
            · rfl
            · refine int_eq ?_; rw [wrap64 (by omega) (by omega)]; omega
            · rw [List.take_succ_eq_append_getElem hk, ← List.append_assoc]; rfl
            · omega
            · omega
          · try simp only [Z.a, Z.b, Z.c, Z.d, Z.e, Z.f, Z.g, Z.h, Z.i, Z.j, Z.k, Z.l, Z.m] at h5
            have hk : i = gs.length := by omega
            refine RO.nil ?_
            refine Runs.seq ?_
            refine Runs.condF rfl ?_
            refine Runs.exit ?_
            refine thenQ_exit ?_
            refine thenQ_exit ?_
            refine blockQ_here ?_
            refine thenQ_normal ?_
            refine Runs.has [(0, .d (encL _)), (8, .d (.bool false)), (9, .d (.str _)), (10, .d (.int _ _)), (11, .own 0 _)] ⟨rfl, rfl, rfl, rfl, rfl, trivial⟩ ?_
            refine Runs.seq ?_
            refine Runs.shut 11 rfl rfl ?_
            refine Runs.rseq ?_
            refine RO.opv (v' := .d (.list (encs _))) (opv_move rfl) rfl ?_
            refine RO.opv (v' := .d (.int _ _)) (opv_len_terms rfl) rfl ?_
            refine RO.opv (v' := .d (.int _ _)) (opv_move rfl) rfl ?_
            refine RO.nil ?_
            refine Runs.block ?_
            rw [hk, List.take_length]
            refine Runs.loopC (X := Nat) (fun i => i ≤ (textsC (allB o) ++ gs).length ∧ ∀ t ∈ (textsC (allB o) ++ gs).take i, reasonB l t.erase (boundG l (bound0 l o lv) gs) = bNone) (fun i => (textsC (allB o) ++ gs).length - i) [(0, .d (encL _)), (10, .d (.int _ _)), (67, .d (.list (encs _))), (68, .d (.int _ _))] (fun i => [(69, .d (.int .i64 (i : Nat)))]) [_] (fun i => []) (0) ⟨rfl, rfl, rfl, rfl, trivial⟩ ⟨rfl, trivial⟩ rfl ⟨Nat.zero_le _, fun t h => by simp at h⟩ fun i hi => ?_
            refine Runs.rseq ?_
            refine RO.opc (opv_bin rfl rfl rfl) (fun h6 => ?_) (fun h6 => ?_)
            · try simp only [Z.a, Z.b, Z.c, Z.d, Z.e, Z.f, Z.g, Z.h, Z.i, Z.j, Z.k, Z.l, Z.m] at h6
              have hk : i < (textsC (allB o) ++ gs).length := by omega
              have hib := texts_small hs hg (List.getElem_mem hk)
              refine RO.nil ?_
              refine Runs.seq ?_
              refine Runs.condT rfl ?_
              refine Runs.skip ?_
              refine thenQ_normal ?_
              refine Runs.has [(0, .d (encL _)), (10, .d (.int _ _)), (67, .d (.list (encs _))), (68, .d (.int _ _)), (69, .d (.int _ _))] ⟨rfl, rfl, rfl, rfl, rfl, trivial⟩ ?_
              refine Runs.seq ?_
              refine Runs.block ?_
              refine Runs.rseq ?_
              refine RO.opv (v' := .d (.ptr _)) (opv_index_terms rfl rfl hk) rfl ?_
              refine RO.opv (v' := .d (enc _)) (opv_load_pterm rfl) rfl ?_
              refine RO.opn (v' := .ref 1 0) (O' := [_, _]) (opv_alloc) rfl rfl ?_
              refine RO.op0n (O' := [_, _]) (opv_store_term rfl rfl rfl (Nat.le_of_ble_eq_true rfl)) rfl ?_
              refine RO.nil ?_
              refine Runs.has [(0, .d (encL _)), (10, .d (.int _ _)), (17, .ref 1 0), (67, .d (.list (encs _))), (68, .d (.int _ _)), (69, .d (.int _ _))] ⟨rfl, rfl, rfl, rfl, rfl, rfl, trivial⟩ ?_
              refine Runs.rseq ?_
              refine RO.opv (v' := .d (encL _)) (opv_move rfl) rfl ?_
              refine RO.opv (v' := .d (enc _)) (opv_load_term rfl rfl rfl) rfl ?_
              refine RO.opv (v' := .d (enc _)) (opv_callF (erase_fn (textsC (allB o) ++ gs)[i] hib) rfl rfl rfl trivial) rfl ?_
              refine RO.opv (v' := .d (.int _ _)) (opv_move rfl) rfl ?_
              refine RO.opv (v' := .d (.str _)) (opv_callF (reason_fn l hl (textsC (allB o) ++ gs)[i].erase (boundG l (bound0 l o lv) gs) (Nat.le_trans (erase_bulk _) hib)) rfl rfl rfl trivial) rfl ?_
              refine RO.opv (v' := .d (.str _)) (opv_assign rfl) rfl ?_
              refine RO.nil ?_
              refine Runs.has [(0, .d (encL _)), (10, .d (.int _ _)), (18, .d (.str _)), (67, .d (.list (encs _))), (68, .d (.int _ _)), (69, .d (.int _ _))] ⟨rfl, rfl, rfl, rfl, rfl, rfl, trivial⟩ ?_
              refine Runs.rseq ?_
              refine RO.opv (v' := .d (.str _)) (opv_move rfl) rfl ?_
              refine RO.opc (opv_bin rfl rfl rfl) (fun h7 => ?_) (fun h7 => ?_)
              · try simp only [Z.a, Z.b, Z.c, Z.d, Z.e, Z.f, Z.g, Z.h, Z.i, Z.j, Z.k, Z.l, Z.m] at h7
                have hr := h7
                refine RO.nil ?_
                refine Runs.condT rfl ?_
                refine Runs.has [(0, .d (encL _)), (10, .d (.int _ _)), (18, .d (.str _)), (67, .d (.list (encs _))), (68, .d (.int _ _)), (69, .d (.int _ _))] ⟨rfl, rfl, rfl, rfl, rfl, rfl, trivial⟩ ?_
                refine Runs.rseq ?_
                refine RO.opv (v' := .d (.str _)) (opv_move rfl) rfl ?_
                refine RO.opv (v' := .d (.bool false)) (opv_assign rfl) rfl ?_
                refine RO.opv (v' := .d (.str _)) (opv_assign rfl) rfl ?_
                refine RO.nil ?_
                refine Runs.ret ?_
                refine blockQ_ret ?_
                refine thenQ_ret ?_
                refine thenQ_ret ?_
                refine blockQ_ret ?_
                refine thenQ_ret ?_
                refine EndQ.tmps2 (.inr rfl) rfl rfl rfl 0 (by exact Nat.le_refl _) (by exact Nat.zero_le _) ⟨trivial, trivial, trivial⟩ ⟨?_, rfl⟩
                unfold acceptB; rw [if_neg hn0, if_neg hn1, judge_bad hk hi.2 (fun e => hr (by rw [e]; rfl))]; rfl
              · try simp only [Z.a, Z.b, Z.c, Z.d, Z.e, Z.f, Z.g, Z.h, Z.i, Z.j, Z.k, Z.l, Z.m] at h7
                have hr := h7
                refine RO.nil ?_
                refine Runs.condF rfl ?_
                refine Runs.skip ?_
                refine blockQ_normal ?_
                refine thenQ_normal ?_
                refine Runs.has [(0, .d (encL _)), (10, .d (.int _ _)), (67, .d (.list (encs _))), (68, .d (.int _ _)), (69, .d (.int _ _))] ⟨rfl, rfl, rfl, rfl, rfl, trivial⟩ ?_
                refine Runs.region ?_
                refine RO.opv (v' := .d (.int _ _)) (opv_bin rfl rfl rfl) rfl ?_
                refine RO.opv (v' := .d (.int _ _)) (opv_move rfl) rfl ?_
                refine RO.nil ?_
                refine thenQ_normal ?_
                refine ⟨i + 1, 1, (by rw [hK]; exact Nat.le_of_ble_eq_true rfl), ⟨rfl, rfl, rfl, rfl, trivial⟩, ⟨?_, trivial⟩, rfl, ?_, ?_⟩
                · refine int_eq ?_; rw [wrap64 (by omega) (by omega)]; omega
                · exact ⟨by omega, ok_next hk hi.2 (by unfold bNone; exact ByteArray.ext_list (by simpa using hr))⟩
                · omega
            · try simp only [Z.a, Z.b, Z.c, Z.d, Z.e, Z.f, Z.g, Z.h, Z.i, Z.j, Z.k, Z.l, Z.m] at h6
              have hk : i = (textsC (allB o) ++ gs).length := by omega
              refine RO.nil ?_
              refine Runs.seq ?_
              refine Runs.condF rfl ?_
              refine Runs.exit ?_
              refine thenQ_exit ?_
              refine thenQ_exit ?_
              refine blockQ_here ?_
              refine thenQ_normal ?_
              refine Runs.has [] trivial ?_
              refine Runs.rseq ?_
              refine RO.opv (v' := .d (.bool true)) (opv_assign rfl) rfl ?_
              refine RO.opv (v' := .d (.str _)) (opv_assign rfl) rfl ?_
              refine RO.nil ?_
              refine Runs.ret ?_
              refine EndQ.tmps2 (.inr rfl) rfl rfl rfl 0 (by exact Nat.le_refl _) (by exact Nat.zero_le _) ⟨trivial, trivial, trivial⟩ ⟨?_, rfl⟩
              have hall := hi.2; rw [hk, List.take_length] at hall
              unfold acceptB; rw [if_neg hn0, if_neg hn1, judge_ok hall]; rfl
      · try simp only [Z.a, Z.b, Z.c, Z.d, Z.e, Z.f, Z.g, Z.h, Z.i, Z.j, Z.k, Z.l, Z.m] at h3
        have hon : bound0 l o lv = l.lev lv := by unfold bound0; rw [show o.isNone = true from by simpa using h3]; rfl
        refine RO.nil ?_
        refine Runs.condF rfl ?_
        refine Runs.skip ?_
        refine thenQ_normal ?_
        refine Runs.has [(0, .d (encL _)), (1, .d (encOB _ _)), (2, .d (.list (encs _))), (8, .d (.bool false)), (9, .d (.str _)), (10, .d (.int _ _))] ⟨rfl, rfl, rfl, rfl, rfl, rfl, trivial⟩ ?_
        refine Runs.rseq ?_
        refine RO.opv (v' := .nil0) (opv_assign rfl) rfl ?_
        refine RO.nil ?_
        refine Runs.seq ?_
        refine Runs.adopt 11 47 4 rfl ?_
        refine Runs.rseq ?_
        refine RO.opv (v' := .d (encOB _ _)) (opv_move rfl) rfl ?_
        refine RO.opv (v' := .d (.list (encCls _))) (opv_callF (all_fn l o hc) rfl rfl rfl trivial) rfl ?_
        refine RO.opv (v' := .d (.int _ _)) (opv_len_cls rfl) rfl ?_
        refine RO.opv (v' := .d (.int _ _)) (opv_move rfl) rfl ?_
        refine RO.nil ?_
        refine Runs.block ?_
        refine Runs.loopC (X := Nat) (fun i => i ≤ (allB o).length) (fun i => (allB o).length - i) [(0, .d (encL _)), (2, .d (.list (encs _))), (8, .d (.bool false)), (9, .d (.str _)), (10, .d (.int _ _)), (36, .d (.list (encCls _))), (37, .d (.int _ _))] (fun i => [(11, .own 0 (1 + i)), (38, .d (.int .i64 (i : Nat)))]) [] (fun i => [.buf 47 4 (encs (textsC ((allB o).take i))) (1 + i)]) (0) ⟨rfl, rfl, rfl, rfl, rfl, rfl, rfl, trivial⟩ ⟨rfl, rfl, trivial⟩ rfl (by omega) fun i hi => ?_
        refine Runs.rseq ?_
        refine RO.opc (opv_bin rfl rfl rfl) (fun h8 => ?_) (fun h8 => ?_)
        · try simp only [Z.a, Z.b, Z.c, Z.d, Z.e, Z.f, Z.g, Z.h, Z.i, Z.j, Z.k, Z.l, Z.m] at h8
          have hk : i < (allB o).length := by omega
          refine RO.nil ?_
          refine Runs.seq ?_
          refine Runs.condT rfl ?_
          refine Runs.skip ?_
          refine thenQ_normal ?_
          refine Runs.has [(0, .d (encL _)), (2, .d (.list (encs _))), (8, .d (.bool false)), (9, .d (.str _)), (10, .d (.int _ _)), (11, .own 0 _), (36, .d (.list (encCls _))), (37, .d (.int _ _)), (38, .d (.int _ _))] ⟨rfl, rfl, rfl, rfl, rfl, rfl, rfl, rfl, rfl, trivial⟩ ?_
          refine Runs.seq ?_
          refine Runs.block ?_
          refine Runs.rseq ?_
          refine RO.opv (v' := .d (.ptr _)) (opv_index_cls rfl rfl hk) rfl ?_
          refine RO.opv (v' := .d (encCl _)) (opv_load_pcl rfl) rfl ?_
          refine RO.opn (v' := .ref 1 0) (O' := [_, _]) (opv_alloc) rfl rfl ?_
          refine RO.op0n (O' := [_, _]) (opv_store_cl rfl rfl rfl rfl) rfl ?_
          refine RO.nil ?_
          refine Runs.has [(0, .d (encL _)), (2, .d (.list (encs _))), (8, .d (.bool false)), (9, .d (.str _)), (10, .d (.int _ _)), (11, .own 0 _), (13, .ref 1 0), (36, .d (.list (encCls _))), (37, .d (.int _ _)), (38, .d (.int _ _))] ⟨rfl, rfl, rfl, rfl, rfl, rfl, rfl, rfl, rfl, rfl, trivial⟩ ?_
          refine Runs.region ?_
          refine RO.opv (v' := .own 0 _) (opv_move rfl) rfl ?_
          refine RO.opv (v' := .ref 1 1) (opv_field_ref rfl rfl) rfl ?_
          refine RO.opv (v' := .d (enc _)) (opv_load_term rfl rfl rfl) rfl ?_
          refine RO.opv (v' := .ref 1 5) (opv_field_ref rfl rfl) rfl ?_
          refine RO.opv (v' := .d (enc _)) (opv_load_term rfl rfl rfl) rfl ?_
          refine RO.opv (v' := .d (.list (encs _))) (opv_bs_term2 rfl rfl ) rfl ?_
          refine RO.opn (v' := .own 0 _) (O' := [_, _]) (opv_append_terms rfl rfl rfl (by rw [textsC_len]; simp; omega)) rfl rfl ?_
          refine RO.opv (v' := .own 0 _) (opv_assign rfl) rfl ?_
          refine RO.nil ?_
          refine blockQ_normal ?_
          refine thenQ_normal ?_
          refine Runs.has [(0, .d (encL _)), (2, .d (.list (encs _))), (8, .d (.bool false)), (9, .d (.str _)), (10, .d (.int _ _)), (11, .own 0 _), (36, .d (.list (encCls _))), (37, .d (.int _ _)), (38, .d (.int _ _))] ⟨rfl, rfl, rfl, rfl, rfl, rfl, rfl, rfl, rfl, trivial⟩ ?_
          refine Runs.region ?_
          refine RO.opv (v' := .d (.int _ _)) (opv_bin rfl rfl rfl) rfl ?_
          refine RO.opv (v' := .d (.int _ _)) (opv_move rfl) rfl ?_
          refine RO.nil ?_
          refine thenQ_normal ?_
          refine ⟨i + 1, 1, (by rw [hK]; exact Nat.le_of_ble_eq_true rfl), ⟨rfl, rfl, rfl, rfl, rfl, rfl, rfl, trivial⟩, ⟨?_, ?_, trivial⟩, ?_, ?_, ?_⟩
          · rfl
          · refine int_eq ?_; rw [wrap64 (by omega) (by omega)]; omega
          · rw [textsC_take hk]; rfl
          · omega
          · omega
        · try simp only [Z.a, Z.b, Z.c, Z.d, Z.e, Z.f, Z.g, Z.h, Z.i, Z.j, Z.k, Z.l, Z.m] at h8
          have hk : i = (allB o).length := by omega
          refine RO.nil ?_
          refine Runs.seq ?_
          refine Runs.condF rfl ?_
          refine Runs.exit ?_
          refine thenQ_exit ?_
          refine thenQ_exit ?_
          refine blockQ_here ?_
          refine thenQ_normal ?_
          refine Runs.has [(0, .d (encL _)), (2, .d (.list (encs _))), (8, .d (.bool false)), (9, .d (.str _)), (10, .d (.int _ _)), (11, .own 0 _)] ⟨rfl, rfl, rfl, rfl, rfl, rfl, trivial⟩ ?_
          refine Runs.seq ?_
          refine Runs.rseq ?_
          refine RO.opv (v' := .d (.list (encs _))) (opv_move rfl) rfl ?_
          refine RO.opv (v' := .d (.int _ _)) (opv_len_terms rfl) rfl ?_
          refine RO.opv (v' := .d (.int _ _)) (opv_move rfl) rfl ?_
          refine RO.nil ?_
          refine Runs.block ?_
          rw [hk, List.take_length]
          refine Runs.loopC (X := Nat) (fun i => i ≤ gs.length) (fun i => gs.length - i) [(0, .d (encL _)), (8, .d (.bool false)), (9, .d (.str _)), (50, .d (.list (encs _))), (51, .d (.int _ _))] (fun i => [(10, .d (.int .i64 (boundG l (bound0 l o lv) (gs.take i)))), (11, .own 0 (1 + (allB o).length + i)), (52, .d (.int .i64 (i : Nat)))]) [] (fun i => [.buf 47 4 (encs (textsC (allB o) ++ gs.take i)) (1 + (allB o).length + i)]) (0) ⟨rfl, rfl, rfl, rfl, rfl, trivial⟩ ⟨(by rw [hon]; rfl), rfl, rfl, trivial⟩ (by simp) (by omega) fun i hi => ?_
          refine Runs.rseq ?_
          refine RO.opc (opv_bin rfl rfl rfl) (fun h9 => ?_) (fun h9 => ?_)
          · try simp only [Z.a, Z.b, Z.c, Z.d, Z.e, Z.f, Z.g, Z.h, Z.i, Z.j, Z.k, Z.l, Z.m] at h9
            have hk : i < gs.length := by omega
            have hgb := bulks_mem (List.getElem_mem hk)
            refine RO.nil ?_
            refine Runs.seq ?_
            refine Runs.condT rfl ?_
            refine Runs.skip ?_
            refine thenQ_normal ?_
            refine Runs.has [(0, .d (encL _)), (8, .d (.bool false)), (9, .d (.str _)), (10, .d (.int _ _)), (11, .own 0 _), (50, .d (.list (encs _))), (51, .d (.int _ _)), (52, .d (.int _ _))] ⟨rfl, rfl, rfl, rfl, rfl, rfl, rfl, rfl, trivial⟩ ?_
            refine Runs.seq ?_
            refine Runs.block ?_
            refine Runs.rseq ?_
            refine RO.opv (v' := .d (.ptr _)) (opv_index_terms rfl rfl hk) rfl ?_
            refine RO.opv (v' := .d (enc _)) (opv_load_pterm rfl) rfl ?_
            refine RO.opn (v' := .ref 1 0) (O' := [_, _]) (opv_alloc) rfl rfl ?_
            refine RO.op0n (O' := [_, _]) (opv_store_term rfl rfl rfl (Nat.le_of_ble_eq_true rfl)) rfl ?_
            refine RO.nil ?_
            refine Runs.has [(0, .d (encL _)), (8, .d (.bool false)), (9, .d (.str _)), (10, .d (.int _ _)), (11, .own 0 _), (15, .ref 1 0), (50, .d (.list (encs _))), (51, .d (.int _ _)), (52, .d (.int _ _))] ⟨rfl, rfl, rfl, rfl, rfl, rfl, rfl, rfl, rfl, trivial⟩ ?_
            refine Runs.rseq ?_
            refine RO.opv (v' := .d (encL _)) (opv_move rfl) rfl ?_
            refine RO.opv (v' := .d (.int _ _)) (opv_move rfl) rfl ?_
            refine RO.opv (v' := .d (encL _)) (opv_move rfl) rfl ?_
            refine RO.opv (v' := .d (enc _)) (opv_load_term rfl rfl rfl) rfl ?_
            refine RO.opv (v' := .d (.int _ _)) (opv_callF (sjoin_fn l hl gs[i] (by omega)) rfl rfl rfl trivial) rfl ?_
            refine RO.opv (v' := .d (.int _ _)) (opv_callF (ljoin_fn l hl _ _) rfl rfl rfl trivial) rfl ?_
            refine RO.opv (v' := .d (.int _ _)) (opv_assign rfl) rfl ?_
            refine RO.nil ?_
            refine Runs.has [(0, .d (encL _)), (8, .d (.bool false)), (9, .d (.str _)), (10, .d (.int _ _)), (11, .own 0 _), (15, .ref 1 0), (50, .d (.list (encs _))), (51, .d (.int _ _)), (52, .d (.int _ _))] ⟨rfl, rfl, rfl, rfl, rfl, rfl, rfl, rfl, rfl, trivial⟩ ?_
            refine Runs.region ?_
            refine RO.opv (v' := .own 0 _) (opv_move rfl) rfl ?_
            refine RO.opv (v' := .d (enc _)) (opv_load_term rfl rfl rfl) rfl ?_
            refine RO.opv (v' := .d (.list (encs _))) (opv_bs_term1 rfl ) rfl ?_
            refine RO.opn (v' := .own 0 _) (O' := [_, _]) (opv_append_terms rfl rfl rfl (by rw [List.length_append, textsC_len]; simp; omega)) rfl rfl ?_
            refine RO.opv (v' := .own 0 _) (opv_assign rfl) rfl ?_
            refine RO.nil ?_
            refine blockQ_normal ?_
            refine thenQ_normal ?_
            refine Runs.has [(0, .d (encL _)), (8, .d (.bool false)), (9, .d (.str _)), (10, .d (.int _ _)), (11, .own 0 _), (50, .d (.list (encs _))), (51, .d (.int _ _)), (52, .d (.int _ _))] ⟨rfl, rfl, rfl, rfl, rfl, rfl, rfl, rfl, trivial⟩ ?_
            refine Runs.region ?_
            refine RO.opv (v' := .d (.int _ _)) (opv_bin rfl rfl rfl) rfl ?_
            refine RO.opv (v' := .d (.int _ _)) (opv_move rfl) rfl ?_
            refine RO.nil ?_
            refine thenQ_normal ?_
            refine ⟨i + 1, 1, (by rw [hK]; exact Nat.le_of_ble_eq_true rfl), ⟨rfl, rfl, rfl, rfl, rfl, trivial⟩, ⟨?_, ?_, ?_, trivial⟩, ?_, ?_, ?_⟩
            · refine int_eq ?_; rw [boundG_take hk]
            · rfl
            · refine int_eq ?_; rw [wrap64 (by omega) (by omega)]; omega
            · rw [List.take_succ_eq_append_getElem hk, ← List.append_assoc]; rfl
            · omega
            · omega
          · try simp only [Z.a, Z.b, Z.c, Z.d, Z.e, Z.f, Z.g, Z.h, Z.i, Z.j, Z.k, Z.l, Z.m] at h9
            have hk : i = gs.length := by omega
            refine RO.nil ?_
            refine Runs.seq ?_
            refine Runs.condF rfl ?_
            refine Runs.exit ?_
            refine thenQ_exit ?_
            refine thenQ_exit ?_
            refine blockQ_here ?_
            refine thenQ_normal ?_
            refine Runs.has [(0, .d (encL _)), (8, .d (.bool false)), (9, .d (.str _)), (10, .d (.int _ _)), (11, .own 0 _)] ⟨rfl, rfl, rfl, rfl, rfl, trivial⟩ ?_
            refine Runs.seq ?_
            refine Runs.shut 11 rfl rfl ?_
            refine Runs.rseq ?_
            refine RO.opv (v' := .d (.list (encs _))) (opv_move rfl) rfl ?_
            refine RO.opv (v' := .d (.int _ _)) (opv_len_terms rfl) rfl ?_
            refine RO.opv (v' := .d (.int _ _)) (opv_move rfl) rfl ?_
            refine RO.nil ?_
            refine Runs.block ?_
            rw [hk, List.take_length]
            refine Runs.loopC (X := Nat) (fun i => i ≤ (textsC (allB o) ++ gs).length ∧ ∀ t ∈ (textsC (allB o) ++ gs).take i, reasonB l t.erase (boundG l (bound0 l o lv) gs) = bNone) (fun i => (textsC (allB o) ++ gs).length - i) [(0, .d (encL _)), (10, .d (.int _ _)), (67, .d (.list (encs _))), (68, .d (.int _ _))] (fun i => [(69, .d (.int .i64 (i : Nat)))]) [_] (fun i => []) (0) ⟨rfl, rfl, rfl, rfl, trivial⟩ ⟨rfl, trivial⟩ rfl ⟨Nat.zero_le _, fun t h => by simp at h⟩ fun i hi => ?_
            refine Runs.rseq ?_
            refine RO.opc (opv_bin rfl rfl rfl) (fun h10 => ?_) (fun h10 => ?_)
            · try simp only [Z.a, Z.b, Z.c, Z.d, Z.e, Z.f, Z.g, Z.h, Z.i, Z.j, Z.k, Z.l, Z.m] at h10
              have hk : i < (textsC (allB o) ++ gs).length := by omega
              have hib := texts_small hs hg (List.getElem_mem hk)
              refine RO.nil ?_
              refine Runs.seq ?_
              refine Runs.condT rfl ?_
              refine Runs.skip ?_
              refine thenQ_normal ?_
              refine Runs.has [(0, .d (encL _)), (10, .d (.int _ _)), (67, .d (.list (encs _))), (68, .d (.int _ _)), (69, .d (.int _ _))] ⟨rfl, rfl, rfl, rfl, rfl, trivial⟩ ?_
              refine Runs.seq ?_
              refine Runs.block ?_
              refine Runs.rseq ?_
              refine RO.opv (v' := .d (.ptr _)) (opv_index_terms rfl rfl hk) rfl ?_
              refine RO.opv (v' := .d (enc _)) (opv_load_pterm rfl) rfl ?_
              refine RO.opn (v' := .ref 1 0) (O' := [_, _]) (opv_alloc) rfl rfl ?_
              refine RO.op0n (O' := [_, _]) (opv_store_term rfl rfl rfl (Nat.le_of_ble_eq_true rfl)) rfl ?_
              refine RO.nil ?_
              refine Runs.has [(0, .d (encL _)), (10, .d (.int _ _)), (17, .ref 1 0), (67, .d (.list (encs _))), (68, .d (.int _ _)), (69, .d (.int _ _))] ⟨rfl, rfl, rfl, rfl, rfl, rfl, trivial⟩ ?_
              refine Runs.rseq ?_
              refine RO.opv (v' := .d (encL _)) (opv_move rfl) rfl ?_
              refine RO.opv (v' := .d (enc _)) (opv_load_term rfl rfl rfl) rfl ?_
              refine RO.opv (v' := .d (enc _)) (opv_callF (erase_fn (textsC (allB o) ++ gs)[i] hib) rfl rfl rfl trivial) rfl ?_
              refine RO.opv (v' := .d (.int _ _)) (opv_move rfl) rfl ?_
              refine RO.opv (v' := .d (.str _)) (opv_callF (reason_fn l hl (textsC (allB o) ++ gs)[i].erase (boundG l (bound0 l o lv) gs) (Nat.le_trans (erase_bulk _) hib)) rfl rfl rfl trivial) rfl ?_
              refine RO.opv (v' := .d (.str _)) (opv_assign rfl) rfl ?_
              refine RO.nil ?_
              refine Runs.has [(0, .d (encL _)), (10, .d (.int _ _)), (18, .d (.str _)), (67, .d (.list (encs _))), (68, .d (.int _ _)), (69, .d (.int _ _))] ⟨rfl, rfl, rfl, rfl, rfl, rfl, trivial⟩ ?_
              refine Runs.rseq ?_
              refine RO.opv (v' := .d (.str _)) (opv_move rfl) rfl ?_
              refine RO.opc (opv_bin rfl rfl rfl) (fun h11 => ?_) (fun h11 => ?_)
              · try simp only [Z.a, Z.b, Z.c, Z.d, Z.e, Z.f, Z.g, Z.h, Z.i, Z.j, Z.k, Z.l, Z.m] at h11
                have hr := h11
                refine RO.nil ?_
                refine Runs.condT rfl ?_
                refine Runs.has [(0, .d (encL _)), (10, .d (.int _ _)), (18, .d (.str _)), (67, .d (.list (encs _))), (68, .d (.int _ _)), (69, .d (.int _ _))] ⟨rfl, rfl, rfl, rfl, rfl, rfl, trivial⟩ ?_
                refine Runs.rseq ?_
                refine RO.opv (v' := .d (.str _)) (opv_move rfl) rfl ?_
                refine RO.opv (v' := .d (.bool false)) (opv_assign rfl) rfl ?_
                refine RO.opv (v' := .d (.str _)) (opv_assign rfl) rfl ?_
                refine RO.nil ?_
                refine Runs.ret ?_
                refine blockQ_ret ?_
                refine thenQ_ret ?_
                refine thenQ_ret ?_
                refine blockQ_ret ?_
                refine thenQ_ret ?_
                refine EndQ.tmps2 (.inr rfl) rfl rfl rfl 0 (by exact Nat.le_refl _) (by exact Nat.zero_le _) ⟨trivial, trivial, trivial⟩ ⟨?_, rfl⟩
                unfold acceptB; rw [if_neg hn0, if_neg hn1, judge_bad hk hi.2 (fun e => hr (by rw [e]; rfl))]; rfl
              · try simp only [Z.a, Z.b, Z.c, Z.d, Z.e, Z.f, Z.g, Z.h, Z.i, Z.j, Z.k, Z.l, Z.m] at h11
                have hr := h11
                refine RO.nil ?_
                refine Runs.condF rfl ?_
                refine Runs.skip ?_
                refine blockQ_normal ?_
                refine thenQ_normal ?_
                refine Runs.has [(0, .d (encL _)), (10, .d (.int _ _)), (67, .d (.list (encs _))), (68, .d (.int _ _)), (69, .d (.int _ _))] ⟨rfl, rfl, rfl, rfl, rfl, trivial⟩ ?_
                refine Runs.region ?_
                refine RO.opv (v' := .d (.int _ _)) (opv_bin rfl rfl rfl) rfl ?_
                refine RO.opv (v' := .d (.int _ _)) (opv_move rfl) rfl ?_
                refine RO.nil ?_
                refine thenQ_normal ?_
                refine ⟨i + 1, 1, (by rw [hK]; exact Nat.le_of_ble_eq_true rfl), ⟨rfl, rfl, rfl, rfl, trivial⟩, ⟨?_, trivial⟩, rfl, ?_, ?_⟩
                · refine int_eq ?_; rw [wrap64 (by omega) (by omega)]; omega
                · exact ⟨by omega, ok_next hk hi.2 (by unfold bNone; exact ByteArray.ext_list (by simpa using hr))⟩
                · omega
            · try simp only [Z.a, Z.b, Z.c, Z.d, Z.e, Z.f, Z.g, Z.h, Z.i, Z.j, Z.k, Z.l, Z.m] at h10
              have hk : i = (textsC (allB o) ++ gs).length := by omega
              refine RO.nil ?_
              refine Runs.seq ?_
              refine Runs.condF rfl ?_
              refine Runs.exit ?_
              refine thenQ_exit ?_
              refine thenQ_exit ?_
              refine blockQ_here ?_
              refine thenQ_normal ?_
              refine Runs.has [] trivial ?_
              refine Runs.rseq ?_
              refine RO.opv (v' := .d (.bool true)) (opv_assign rfl) rfl ?_
              refine RO.opv (v' := .d (.str _)) (opv_assign rfl) rfl ?_
              refine RO.nil ?_
              refine Runs.ret ?_
              refine EndQ.tmps2 (.inr rfl) rfl rfl rfl 0 (by exact Nat.le_refl _) (by exact Nat.zero_le _) ⟨trivial, trivial, trivial⟩ ⟨?_, rfl⟩
              have hall := hi.2; rw [hk, List.take_length] at hall
              unfold acceptB; rw [if_neg hn0, if_neg hn1, judge_ok hall]; rfl
end Go.Proofs.Ytohncglpjiplaaa.AM
