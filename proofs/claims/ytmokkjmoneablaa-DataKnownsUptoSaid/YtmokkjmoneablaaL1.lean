import Derived.Test.YtmokkjmoneablaaL0
namespace Go.Proofs.Ytmokkjmoneablaa.AM
open Go
set_option linter.unusedVariables false
set_option linter.unusedSimpArgs false
theorem dataKnowns_fn (s : ByteArray) (ks : List Term) (g1 : s.size ≤ 2 ^ 20) (g2 : bulks ks ≤ 2 ^ 20) (_g2' : fitss ks) : Fn Try.prog 4 [.d (.str s), .d (.list (encs ks))] [] (.d (.bool true)) [] := by
  have hk : 3 < 16 := by decide
  have hL := bulks_len ks
  have hP := parse_name (C 3) s ks
  have hbk : (Term.node 3 0 neck [(Term.node 3 0 s ks), trueT]).bulk ≤ 2 ^ 28 := by rw [rule_bulk]; show s.size + bulks ks + 1 + 8 ≤ _; omega
  refine Does.run Try.func4 rfl Try.ntmps4 rfl fun K hK => ?_
  refine Runs.rseq ?_
  refine RO.opv (v' := .d (.bool false)) (opv_assign rfl) rfl ?_
  refine RO.nil ?_
  refine Runs.rseq ?_
  refine RO.opv (v' := .d (.bool true)) (opv_callF (shown_fn) rfl rfl rfl trivial) rfl ?_
  refine RO.opv (v' := .d (.bool true)) (opv_assign rfl) rfl ?_
  refine RO.nil ?_
  refine Runs.has [(0, .d (.str _)), (1, .d (.list (encs _))), (4, .d (.bool false)), (5, .d (.bool true))] ⟨rfl, rfl, rfl, rfl, trivial⟩ ?_
  refine Runs.rseq ?_
  refine RO.opv (v' := .d (.list (encPs _))) (opv_callF (chainp_fn 3 (by decide)) rfl rfl rfl trivial) rfl ?_
  refine RO.opv (opv_callF (lnewC_fn 3 (by decide)) rfl rfl rfl ⟨trivial, trivial, trivial⟩) rfl ?_
  refine RO.opv (opv_move rfl) rfl ?_
  refine RO.opv (v' := .d (encL _)) (opv_extract rfl rfl) rfl ?_
  refine RO.opv (v' := .d (.int _ _)) (opv_extract rfl rfl) rfl ?_
  refine RO.opv (v' := .d (encL _)) (opv_assign rfl) rfl ?_
  refine RO.opv (v' := .d (.int _ _)) (opv_assign rfl) rfl ?_
  refine RO.nil ?_
  refine Runs.has [(0, .d (.str _)), (1, .d (.list (encs _))), (4, .d (.bool false)), (5, .d (.bool true)), (6, .d (encL _))] ⟨rfl, rfl, rfl, rfl, rfl, trivial⟩ ?_
  refine Runs.seq ?_
  refine Runs.rseq ?_
  refine RO.opv (v' := .d (encL _)) (opv_move rfl) rfl ?_
  refine RO.opv (v' := .d (.bool false)) (opv_eqnil rfl rfl rfl) rfl ?_
  refine RO.opv (v' := .d (.bool false)) (opv_move rfl) rfl ?_
  refine RO.opgv (v' := .d (.list (encs _))) rfl (opv_move rfl) rfl ?_
  refine RO.opgv (v' := .d (.bool _)) rfl (opv_callF (few_fn ks (by omega)) rfl rfl rfl trivial) rfl ?_
  refine RO.opgv (v' := .d (.bool _)) rfl (opv_not rfl rfl) rfl ?_
  refine RO.opv (v' := .d (.bool _)) (opv_pick rfl rfl) rfl ?_
  refine RO.opc (opv_move rfl) (fun h1 => ?_) (fun h1 => ?_)
  · skip
    refine RO.off rfl ?_
    refine RO.off rfl ?_
    refine RO.off rfl ?_
    refine RO.opv (v' := .d (.bool true)) (opv_pick rfl rfl) rfl ?_
    refine RO.nil ?_
    refine Runs.condT rfl ?_
    refine Runs.has [(0, .d (.str _)), (1, .d (.list (encs _))), (4, .d (.bool false)), (5, .d (.bool true)), (6, .d (encL _))] ⟨rfl, rfl, rfl, rfl, rfl, trivial⟩ ?_
    refine Runs.rseq ?_
    refine RO.opv (v' := .d (.bool true)) (opv_move rfl) rfl ?_
    refine RO.opv (v' := .d (.bool true)) (opv_move rfl) rfl ?_
    refine RO.opgv (v' := .d (encL _)) rfl (opv_move rfl) rfl ?_
    refine RO.opgv (v' := .d (.bool true)) rfl (opv_nenil rfl rfl rfl) rfl ?_
    refine RO.opv (v' := .d (.bool true)) (opv_pick rfl rfl) rfl ?_
    refine RO.opv (v' := .d (.bool true)) (opv_assign rfl) rfl ?_
    refine RO.nil ?_
    refine Runs.ret ?_
    refine thenQ_ret ?_
    refine EndQ.tmp (.inr rfl) rfl rfl 0 (by exact Nat.le_refl _) (by exact Nat.zero_le _) trivial ⟨?_, rfl⟩
    first
      | rfl
      | (refine bool_eq ?_
         rcases hP with ⟨hc, h6⟩ | ⟨hc, h0, h1, h2⟩
         · rw [h6]; rfl
         · exfalso; simp_all)
      | (refine bool_eq ?_
         rcases hP with ⟨hc, h6⟩ | ⟨hc, h0, h1, h2⟩
         · exfalso; simp_all
         · rw [h2]; simp)
  · skip
    refine RO.opgv (v' := .d (.list (encs _))) rfl (opv_move rfl) rfl ?_
    refine RO.opgv (v' := .d (.int _ _)) rfl (opv_len_terms rfl) rfl ?_
    refine RO.opgv (v' := .d (.bool _)) rfl (opv_bin rfl rfl rfl) rfl ?_
    refine RO.opc (opv_pick rfl rfl) (fun h2 => ?_) (fun h2 => ?_)
    · skip
      refine RO.nil ?_
      refine Runs.condT rfl ?_
      refine Runs.has [(0, .d (.str _)), (1, .d (.list (encs _))), (4, .d (.bool false)), (5, .d (.bool true)), (6, .d (encL _))] ⟨rfl, rfl, rfl, rfl, rfl, trivial⟩ ?_
      refine Runs.rseq ?_
      refine RO.opv (v' := .d (.bool true)) (opv_move rfl) rfl ?_
      refine RO.opv (v' := .d (.bool true)) (opv_move rfl) rfl ?_
      refine RO.opgv (v' := .d (encL _)) rfl (opv_move rfl) rfl ?_
      refine RO.opgv (v' := .d (.bool true)) rfl (opv_nenil rfl rfl rfl) rfl ?_
      refine RO.opv (v' := .d (.bool true)) (opv_pick rfl rfl) rfl ?_
      refine RO.opv (v' := .d (.bool true)) (opv_assign rfl) rfl ?_
      refine RO.nil ?_
      refine Runs.ret ?_
      refine thenQ_ret ?_
      refine EndQ.tmp (.inr rfl) rfl rfl 0 (by exact Nat.le_refl _) (by exact Nat.zero_le _) trivial ⟨?_, rfl⟩
      first
        | rfl
        | (refine bool_eq ?_
           rcases hP with ⟨hc, h6⟩ | ⟨hc, h0, h1, h2⟩
           · rw [h6]; rfl
           · exfalso; simp_all)
        | (refine bool_eq ?_
           rcases hP with ⟨hc, h6⟩ | ⟨hc, h0, h1, h2⟩
           · exfalso; simp_all
           · rw [h2]; simp)
    · skip
      refine RO.nil ?_
      refine Runs.condF rfl ?_
      refine Runs.skip ?_
      refine thenQ_normal ?_
      refine Runs.has [(0, .d (.str _)), (1, .d (.list (encs _))), (4, .d (.bool false)), (5, .d (.bool true)), (6, .d (encL _))] ⟨rfl, rfl, rfl, rfl, rfl, trivial⟩ ?_
      refine Runs.rseq ?_
      refine RO.opv (v' := .d (.str _)) (opv_move rfl) rfl ?_
      refine RO.opv (v' := .d (.list (encs _))) (opv_move rfl) rfl ?_
      refine RO.opv (v' := .d (enc _)) (opv_callF (make_fn s ks (by omega)) rfl rfl rfl trivial) rfl ?_
      refine RO.opn (v' := .ref 0 0) (O' := [_]) (opv_alloc) rfl rfl ?_
      refine RO.op0n (O' := [_]) (opv_store_term rfl rfl rfl (Nat.le_of_ble_eq_true rfl)) rfl ?_
      refine RO.nil ?_
      refine Runs.has [(0, .d (.str _)), (1, .d (.list (encs _))), (4, .d (.bool false)), (5, .d (.bool true)), (6, .d (encL _)), (8, .ref 0 0)] ⟨rfl, rfl, rfl, rfl, rfl, rfl, trivial⟩ ?_
      refine Runs.seq ?_
      refine Runs.drawn (by kernel_rfl) [0] [true, true, true, true, true, true, true, true, true, false, false, false] [false, false, false, false, false, false, false, false, false, true, true, false] (by decide +kernel) ?_
      refine RD.opa (v' := .d (encL _)) (fun O' hkeep => opv_move rfl) rfl ?_
      refine RD.opa (v' := .d (enc _)) (fun O' hkeep => opv_load_term rfl (hkeep.1.trans rfl) rfl) rfl ?_
      refine RD.opa (v' := .d (enc _)) (fun O' hkeep => opv_callF (atom_fn ntrue) rfl rfl rfl trivial) rfl ?_
      refine RD.opa (v' := .d (.list (encs _))) (fun O' hkeep => opv_bs_term2 rfl rfl ) rfl ?_
      refine RD.opa (v' := .d (enc _)) (fun O' hkeep => opv_callF (make_fn neck [(Term.node 3 0 s ks), trueT] (Nat.le_of_ble_eq_true rfl)) rfl rfl rfl trivial) rfl ?_
      refine RD.opa (fun O' hkeep => opv_callF (parse_fn (C 3) (C_ok (by decide)) (Term.node 3 0 neck [(Term.node 3 0 s ks), trueT]) hbk) rfl rfl rfl ⟨trivial, trivial, trivial⟩) rfl ?_
      refine RD.opa (fun O' hkeep => opv_move rfl) rfl ?_
      refine RD.opa (v' := .d (encCl _)) (fun O' hkeep => opv_extract rfl rfl) rfl ?_
      refine RD.opa (v' := .d (.int _ _)) (fun O' hkeep => opv_extract rfl rfl) rfl ?_
      refine RD.opn (v' := .ref 1 0) (O' := [_, _]) (opv_alloc) rfl rfl ⟨rfl, trivial⟩ ?_
      refine RD.op0n (O' := [_, _]) (opv_store_cl rfl rfl rfl rfl) rfl ⟨rfl, trivial⟩ ?_
      refine RD.opv (v' := .d (.int _ _)) (opv_assign rfl) rfl ?_
      refine RD.nil ?_
      refine thenQ_normal ?_
      refine Runs.has [(0, .d (.str _)), (1, .d (.list (encs _))), (4, .d (.bool false)), (5, .d (.bool true)), (9, .ref 1 0), (10, .d (.int _ _))] ⟨rfl, rfl, rfl, rfl, rfl, rfl, trivial⟩ ?_
      refine Runs.rseq ?_
      refine RO.opv (v' := .d (.str _)) (opv_move rfl) rfl ?_
      refine RO.opv (v' := .d (.bool _)) (opv_bin rfl rfl rfl) rfl ?_
      refine RO.opc (opv_move rfl) (fun h3 => ?_) (fun h3 => ?_)
      · skip
        have hn1 : (s.toList == neck.toList) = true := h3
        refine RO.off rfl ?_
        refine RO.off rfl ?_
        refine RO.opv (v' := .d (.bool true)) (opv_pick rfl rfl) rfl ?_
        refine RO.opv (v' := .d (.bool true)) (opv_move rfl) rfl ?_
        refine RO.opgv (v' := .d (.list (encs _))) rfl (opv_move rfl) rfl ?_
        refine RO.opgv (v' := .d (.int _ _)) rfl (opv_len_terms rfl) rfl ?_
        refine RO.opgv (v' := .d (.bool _)) rfl (opv_bin rfl rfl rfl) rfl ?_
        refine RO.opv (v' := .d (.bool _)) (opv_pick rfl rfl) rfl ?_
        refine RO.opv (v' := .d (.bool _)) (opv_assign rfl) rfl ?_
        refine RO.nil ?_
        refine Runs.has [(0, .d (.str _)), (1, .d (.list (encs _))), (4, .d (.bool false)), (5, .d (.bool true)), (9, .ref 1 0), (10, .d (.int _ _)), (11, .d (.bool _))] ⟨rfl, rfl, rfl, rfl, rfl, rfl, rfl, trivial⟩ ?_
        refine Runs.seq ?_
        refine Runs.rseq ?_
        refine RO.opv (v' := .d (.str _)) (opv_move rfl) rfl ?_
        refine RO.opv (v' := .d (.list (encs _))) (opv_move rfl) rfl ?_
        refine RO.opv (v' := .d (.int _ _)) (opv_len_terms rfl) rfl ?_
        refine RO.opv (v' := .d (.bool _)) (opv_callF (known_fn _ _) rfl rfl rfl trivial) rfl ?_
        refine RO.opc (opv_move rfl) (fun h4 => ?_) (fun h4 => ?_)
        · skip
          have hkn := h4
          refine RO.off rfl ?_
          refine RO.opv (v' := .d (.bool true)) (opv_pick rfl rfl) rfl ?_
          refine RO.nil ?_
          refine Runs.condT rfl ?_
          refine Runs.has [(0, .d (.str _)), (1, .d (.list (encs _))), (4, .d (.bool false)), (5, .d (.bool true)), (9, .ref 1 0), (10, .d (.int _ _))] ⟨rfl, rfl, rfl, rfl, rfl, rfl, trivial⟩ ?_
          refine Runs.rseq ?_
          refine RO.opv (v' := .d (.bool true)) (opv_move rfl) rfl ?_
          refine RO.opv (v' := .d (.bool true)) (opv_move rfl) rfl ?_
          refine RO.opgv (v' := .d (.int _ _)) rfl (opv_move rfl) rfl ?_
          refine RO.opgv (v' := .d (.bool _)) rfl (opv_bin rfl rfl rfl) rfl ?_
          refine RO.opv (v' := .d (.bool _)) (opv_pick rfl rfl) rfl ?_
          refine RO.opv (v' := .d (.bool _)) (opv_assign rfl) rfl ?_
          refine RO.nil ?_
          refine Runs.ret ?_
          refine thenQ_ret ?_
          refine EndQ.tmp (.inr rfl) rfl rfl 0 (by exact Nat.le_refl _) (by exact Nat.zero_le _) trivial ⟨?_, rfl⟩
          first
            | rfl
            | (refine bool_eq ?_
               rcases hP with ⟨hc, h6⟩ | ⟨hc, h0, h1, h2⟩
               · rw [h6]; rfl
               · exfalso; simp_all)
            | (refine bool_eq ?_
               rcases hP with ⟨hc, h6⟩ | ⟨hc, h0, h1, h2⟩
               · exfalso; simp_all
               · rw [h2]; simp)
        · skip
          have hkn := h4
          refine RO.opgv (v' := .d (.bool _)) rfl (opv_move rfl) rfl ?_
          refine RO.opc (opv_pick rfl rfl) (fun h5 => ?_) (fun h5 => ?_)
          · skip
            have hlen := h5
            refine RO.nil ?_
            refine Runs.condT rfl ?_
            refine Runs.has [(0, .d (.str _)), (1, .d (.list (encs _))), (4, .d (.bool false)), (5, .d (.bool true)), (9, .ref 1 0), (10, .d (.int _ _))] ⟨rfl, rfl, rfl, rfl, rfl, rfl, trivial⟩ ?_
            refine Runs.rseq ?_
            refine RO.opv (v' := .d (.bool true)) (opv_move rfl) rfl ?_
            refine RO.opv (v' := .d (.bool true)) (opv_move rfl) rfl ?_
            refine RO.opgv (v' := .d (.int _ _)) rfl (opv_move rfl) rfl ?_
            refine RO.opgv (v' := .d (.bool _)) rfl (opv_bin rfl rfl rfl) rfl ?_
            refine RO.opv (v' := .d (.bool _)) (opv_pick rfl rfl) rfl ?_
            refine RO.opv (v' := .d (.bool _)) (opv_assign rfl) rfl ?_
            refine RO.nil ?_
            refine Runs.ret ?_
            refine thenQ_ret ?_
            refine EndQ.tmp (.inr rfl) rfl rfl 0 (by exact Nat.le_refl _) (by exact Nat.zero_le _) trivial ⟨?_, rfl⟩
            first
              | rfl
              | (refine bool_eq ?_
                 rcases hP with ⟨hc, h6⟩ | ⟨hc, h0, h1, h2⟩
                 · rw [h6]; rfl
                 · exfalso; simp_all)
              | (refine bool_eq ?_
                 rcases hP with ⟨hc, h6⟩ | ⟨hc, h0, h1, h2⟩
                 · exfalso; simp_all
                 · rw [h2]; simp)
          · skip
            have hlen := h5
            refine RO.nil ?_
            refine Runs.condF rfl ?_
            refine Runs.skip ?_
            refine thenQ_normal ?_
            refine Runs.has [(0, .d (.str _)), (1, .d (.list (encs _))), (4, .d (.bool false)), (5, .d (.bool true)), (9, .ref 1 0), (10, .d (.int _ _))] ⟨rfl, rfl, rfl, rfl, rfl, rfl, trivial⟩ ?_
            refine Runs.rseq ?_
            refine RO.opv (v' := .d (.bool true)) (opv_move rfl) rfl ?_
            refine RO.opv (v' := .d (.bool true)) (opv_move rfl) rfl ?_
            refine RO.opgv (v' := .d (.int _ _)) rfl (opv_move rfl) rfl ?_
            refine RO.opgv (v' := .d (.bool _)) rfl (opv_bin rfl rfl rfl) rfl ?_
            refine RO.opv (v' := .d (.bool _)) (opv_pick rfl rfl) rfl ?_
            refine RO.opc (opv_move rfl) (fun h6 => ?_) (fun h6 => ?_)
            · skip
              refine RO.opgv (v' := .ref 1 1) rfl (opv_field_ref rfl rfl) rfl ?_
              refine RO.opgv (v' := .ref 1 3) rfl (opv_field_ref rfl rfl) rfl ?_
              refine RO.opgv (v' := .d (.str _)) rfl (opv_load_ref rfl rfl rfl) rfl ?_
              refine RO.opgv (v' := .d (.str _)) rfl (opv_move rfl) rfl ?_
              refine RO.opgv (v' := .d (.bool _)) rfl (opv_bin rfl rfl rfl) rfl ?_
              refine RO.opv (v' := .d (.bool _)) (opv_pick rfl rfl) rfl ?_
              refine RO.opc (opv_move rfl) (fun h7 => ?_) (fun h7 => ?_)
              · skip
                refine RO.opgv (v' := .ref 1 1) rfl (opv_field_ref rfl rfl) rfl ?_
                refine RO.opgv (v' := .ref 1 4) rfl (opv_field_ref rfl rfl) rfl ?_
                refine RO.opgv (v' := .d (.list (encs _))) rfl (opv_load_ref rfl rfl rfl) rfl ?_
                refine RO.opgv (v' := .d (.int _ _)) rfl (opv_len_terms rfl) rfl ?_
                refine RO.opgv (v' := .d (.list (encs _))) rfl (opv_move rfl) rfl ?_
                refine RO.opgv (v' := .d (.int _ _)) rfl (opv_len_terms rfl) rfl ?_
                refine RO.opgv (v' := .d (.bool _)) rfl (opv_bin rfl rfl rfl) rfl ?_
                refine RO.opv (v' := .d (.bool _)) (opv_pick rfl rfl) rfl ?_
                refine RO.opv (v' := .d (.bool _)) (opv_assign rfl) rfl ?_
                refine RO.nil ?_
                refine Runs.ret ?_
                refine EndQ.tmp (.inr rfl) rfl rfl 0 (by exact Nat.le_refl _) (by exact Nat.zero_le _) trivial ⟨?_, rfl⟩
                first
                  | rfl
                  | (refine bool_eq ?_
                     rcases hP with ⟨hc, h6⟩ | ⟨hc, h0, h1, h2⟩
                     · rw [h6]; rfl
                     · exfalso; simp_all)
                  | (refine bool_eq ?_
                     rcases hP with ⟨hc, h6⟩ | ⟨hc, h0, h1, h2⟩
                     · exfalso; simp_all
                     · rw [h2]; simp)
              · skip
                rcases hP with ⟨hc, _⟩ | ⟨_, _, h0, _⟩
                · simp_all
                · rw [h0] at h7; simp at h7
            · skip
              rcases hP with ⟨hc, _⟩ | ⟨_, h0, _⟩
              · simp_all
              · rw [h0] at h6; exact absurd h6 (by decide)
      · skip
        have hn1 : (s.toList == neck.toList) = false := h3
        refine RO.opgv (v' := .d (.str _)) rfl (opv_move rfl) rfl ?_
        refine RO.opgv (v' := .d (.bool _)) rfl (opv_bin rfl rfl rfl) rfl ?_
        refine RO.opv (v' := .d (.bool _)) (opv_pick rfl rfl) rfl ?_
        refine RO.opc (opv_move rfl) (fun h8 => ?_) (fun h8 => ?_)
        · skip
          have hn2 : (s.toList == ncol.toList) = true := h8
          refine RO.opgv (v' := .d (.list (encs _))) rfl (opv_move rfl) rfl ?_
          refine RO.opgv (v' := .d (.int _ _)) rfl (opv_len_terms rfl) rfl ?_
          refine RO.opgv (v' := .d (.bool _)) rfl (opv_bin rfl rfl rfl) rfl ?_
          refine RO.opv (v' := .d (.bool _)) (opv_pick rfl rfl) rfl ?_
          refine RO.opv (v' := .d (.bool _)) (opv_assign rfl) rfl ?_
          refine RO.nil ?_
          refine Runs.has [(0, .d (.str _)), (1, .d (.list (encs _))), (4, .d (.bool false)), (5, .d (.bool true)), (9, .ref 1 0), (10, .d (.int _ _)), (11, .d (.bool _))] ⟨rfl, rfl, rfl, rfl, rfl, rfl, rfl, trivial⟩ ?_
          refine Runs.seq ?_
          refine Runs.rseq ?_
          refine RO.opv (v' := .d (.str _)) (opv_move rfl) rfl ?_
          refine RO.opv (v' := .d (.list (encs _))) (opv_move rfl) rfl ?_
          refine RO.opv (v' := .d (.int _ _)) (opv_len_terms rfl) rfl ?_
          refine RO.opv (v' := .d (.bool _)) (opv_callF (known_fn _ _) rfl rfl rfl trivial) rfl ?_
          refine RO.opc (opv_move rfl) (fun h9 => ?_) (fun h9 => ?_)
          · skip
            have hkn := h9
            refine RO.off rfl ?_
            refine RO.opv (v' := .d (.bool true)) (opv_pick rfl rfl) rfl ?_
            refine RO.nil ?_
            refine Runs.condT rfl ?_
            refine Runs.has [(0, .d (.str _)), (1, .d (.list (encs _))), (4, .d (.bool false)), (5, .d (.bool true)), (9, .ref 1 0), (10, .d (.int _ _))] ⟨rfl, rfl, rfl, rfl, rfl, rfl, trivial⟩ ?_
            refine Runs.rseq ?_
            refine RO.opv (v' := .d (.bool true)) (opv_move rfl) rfl ?_
            refine RO.opv (v' := .d (.bool true)) (opv_move rfl) rfl ?_
            refine RO.opgv (v' := .d (.int _ _)) rfl (opv_move rfl) rfl ?_
            refine RO.opgv (v' := .d (.bool _)) rfl (opv_bin rfl rfl rfl) rfl ?_
            refine RO.opv (v' := .d (.bool _)) (opv_pick rfl rfl) rfl ?_
            refine RO.opv (v' := .d (.bool _)) (opv_assign rfl) rfl ?_
            refine RO.nil ?_
            refine Runs.ret ?_
            refine thenQ_ret ?_
            refine EndQ.tmp (.inr rfl) rfl rfl 0 (by exact Nat.le_refl _) (by exact Nat.zero_le _) trivial ⟨?_, rfl⟩
            first
              | rfl
              | (refine bool_eq ?_
                 rcases hP with ⟨hc, h6⟩ | ⟨hc, h0, h1, h2⟩
                 · rw [h6]; rfl
                 · exfalso; simp_all)
              | (refine bool_eq ?_
                 rcases hP with ⟨hc, h6⟩ | ⟨hc, h0, h1, h2⟩
                 · exfalso; simp_all
                 · rw [h2]; simp)
          · skip
            have hkn := h9
            refine RO.opgv (v' := .d (.bool _)) rfl (opv_move rfl) rfl ?_
            refine RO.opc (opv_pick rfl rfl) (fun h10 => ?_) (fun h10 => ?_)
            · skip
              have hlen := h10
              refine RO.nil ?_
              refine Runs.condT rfl ?_
              refine Runs.has [(0, .d (.str _)), (1, .d (.list (encs _))), (4, .d (.bool false)), (5, .d (.bool true)), (9, .ref 1 0), (10, .d (.int _ _))] ⟨rfl, rfl, rfl, rfl, rfl, rfl, trivial⟩ ?_
              refine Runs.rseq ?_
              refine RO.opv (v' := .d (.bool true)) (opv_move rfl) rfl ?_
              refine RO.opv (v' := .d (.bool true)) (opv_move rfl) rfl ?_
              refine RO.opgv (v' := .d (.int _ _)) rfl (opv_move rfl) rfl ?_
              refine RO.opgv (v' := .d (.bool _)) rfl (opv_bin rfl rfl rfl) rfl ?_
              refine RO.opv (v' := .d (.bool _)) (opv_pick rfl rfl) rfl ?_
              refine RO.opv (v' := .d (.bool _)) (opv_assign rfl) rfl ?_
              refine RO.nil ?_
              refine Runs.ret ?_
              refine thenQ_ret ?_
              refine EndQ.tmp (.inr rfl) rfl rfl 0 (by exact Nat.le_refl _) (by exact Nat.zero_le _) trivial ⟨?_, rfl⟩
              first
                | rfl
                | (refine bool_eq ?_
                   rcases hP with ⟨hc, h6⟩ | ⟨hc, h0, h1, h2⟩
                   · rw [h6]; rfl
                   · exfalso; simp_all)
                | (refine bool_eq ?_
                   rcases hP with ⟨hc, h6⟩ | ⟨hc, h0, h1, h2⟩
                   · exfalso; simp_all
                   · rw [h2]; simp)
            · skip
              have hlen := h10
              refine RO.nil ?_
              refine Runs.condF rfl ?_
              refine Runs.skip ?_
              refine thenQ_normal ?_
              refine Runs.has [(0, .d (.str _)), (1, .d (.list (encs _))), (4, .d (.bool false)), (5, .d (.bool true)), (9, .ref 1 0), (10, .d (.int _ _))] ⟨rfl, rfl, rfl, rfl, rfl, rfl, trivial⟩ ?_
              refine Runs.rseq ?_
              refine RO.opv (v' := .d (.bool true)) (opv_move rfl) rfl ?_
              refine RO.opv (v' := .d (.bool true)) (opv_move rfl) rfl ?_
              refine RO.opgv (v' := .d (.int _ _)) rfl (opv_move rfl) rfl ?_
              refine RO.opgv (v' := .d (.bool _)) rfl (opv_bin rfl rfl rfl) rfl ?_
              refine RO.opv (v' := .d (.bool _)) (opv_pick rfl rfl) rfl ?_
              refine RO.opc (opv_move rfl) (fun h11 => ?_) (fun h11 => ?_)
              · skip
                refine RO.opgv (v' := .ref 1 1) rfl (opv_field_ref rfl rfl) rfl ?_
                refine RO.opgv (v' := .ref 1 3) rfl (opv_field_ref rfl rfl) rfl ?_
                refine RO.opgv (v' := .d (.str _)) rfl (opv_load_ref rfl rfl rfl) rfl ?_
                refine RO.opgv (v' := .d (.str _)) rfl (opv_move rfl) rfl ?_
                refine RO.opgv (v' := .d (.bool _)) rfl (opv_bin rfl rfl rfl) rfl ?_
                refine RO.opv (v' := .d (.bool _)) (opv_pick rfl rfl) rfl ?_
                refine RO.opc (opv_move rfl) (fun h12 => ?_) (fun h12 => ?_)
                · skip
                  refine RO.opgv (v' := .ref 1 1) rfl (opv_field_ref rfl rfl) rfl ?_
                  refine RO.opgv (v' := .ref 1 4) rfl (opv_field_ref rfl rfl) rfl ?_
                  refine RO.opgv (v' := .d (.list (encs _))) rfl (opv_load_ref rfl rfl rfl) rfl ?_
                  refine RO.opgv (v' := .d (.int _ _)) rfl (opv_len_terms rfl) rfl ?_
                  refine RO.opgv (v' := .d (.list (encs _))) rfl (opv_move rfl) rfl ?_
                  refine RO.opgv (v' := .d (.int _ _)) rfl (opv_len_terms rfl) rfl ?_
                  refine RO.opgv (v' := .d (.bool _)) rfl (opv_bin rfl rfl rfl) rfl ?_
                  refine RO.opv (v' := .d (.bool _)) (opv_pick rfl rfl) rfl ?_
                  refine RO.opv (v' := .d (.bool _)) (opv_assign rfl) rfl ?_
                  refine RO.nil ?_
                  refine Runs.ret ?_
                  refine EndQ.tmp (.inr rfl) rfl rfl 0 (by exact Nat.le_refl _) (by exact Nat.zero_le _) trivial ⟨?_, rfl⟩
                  first
                    | rfl
                    | (refine bool_eq ?_
                       rcases hP with ⟨hc, h6⟩ | ⟨hc, h0, h1, h2⟩
                       · rw [h6]; rfl
                       · exfalso; simp_all)
                    | (refine bool_eq ?_
                       rcases hP with ⟨hc, h6⟩ | ⟨hc, h0, h1, h2⟩
                       · exfalso; simp_all
                       · rw [h2]; simp)
                · skip
                  rcases hP with ⟨hc, _⟩ | ⟨_, _, h0, _⟩
                  · simp_all
                  · rw [h0] at h12; simp at h12
              · skip
                rcases hP with ⟨hc, _⟩ | ⟨_, h0, _⟩
                · simp_all
                · rw [h0] at h11; exact absurd h11 (by decide)
        · skip
          have hn2 : (s.toList == ncol.toList) = false := h8
          refine RO.off rfl ?_
          refine RO.off rfl ?_
          refine RO.off rfl ?_
          refine RO.opv (v' := .d (.bool false)) (opv_pick rfl rfl) rfl ?_
          refine RO.opv (v' := .d (.bool false)) (opv_assign rfl) rfl ?_
          refine RO.nil ?_
          refine Runs.has [(0, .d (.str _)), (1, .d (.list (encs _))), (4, .d (.bool false)), (5, .d (.bool true)), (9, .ref 1 0), (10, .d (.int _ _)), (11, .d (.bool false))] ⟨rfl, rfl, rfl, rfl, rfl, rfl, rfl, trivial⟩ ?_
          refine Runs.seq ?_
          refine Runs.rseq ?_
          refine RO.opv (v' := .d (.str _)) (opv_move rfl) rfl ?_
          refine RO.opv (v' := .d (.list (encs _))) (opv_move rfl) rfl ?_
          refine RO.opv (v' := .d (.int _ _)) (opv_len_terms rfl) rfl ?_
          refine RO.opv (v' := .d (.bool _)) (opv_callF (known_fn _ _) rfl rfl rfl trivial) rfl ?_
          refine RO.opc (opv_move rfl) (fun h13 => ?_) (fun h13 => ?_)
          · skip
            have hkn := h13
            refine RO.off rfl ?_
            refine RO.opv (v' := .d (.bool true)) (opv_pick rfl rfl) rfl ?_
            refine RO.nil ?_
            refine Runs.condT rfl ?_
            refine Runs.has [(0, .d (.str _)), (1, .d (.list (encs _))), (4, .d (.bool false)), (5, .d (.bool true)), (9, .ref 1 0), (10, .d (.int _ _))] ⟨rfl, rfl, rfl, rfl, rfl, rfl, trivial⟩ ?_
            refine Runs.rseq ?_
            refine RO.opv (v' := .d (.bool true)) (opv_move rfl) rfl ?_
            refine RO.opv (v' := .d (.bool true)) (opv_move rfl) rfl ?_
            refine RO.opgv (v' := .d (.int _ _)) rfl (opv_move rfl) rfl ?_
            refine RO.opgv (v' := .d (.bool _)) rfl (opv_bin rfl rfl rfl) rfl ?_
            refine RO.opv (v' := .d (.bool _)) (opv_pick rfl rfl) rfl ?_
            refine RO.opv (v' := .d (.bool _)) (opv_assign rfl) rfl ?_
            refine RO.nil ?_
            refine Runs.ret ?_
            refine thenQ_ret ?_
            refine EndQ.tmp (.inr rfl) rfl rfl 0 (by exact Nat.le_refl _) (by exact Nat.zero_le _) trivial ⟨?_, rfl⟩
            first
              | rfl
              | (refine bool_eq ?_
                 rcases hP with ⟨hc, h6⟩ | ⟨hc, h0, h1, h2⟩
                 · rw [h6]; rfl
                 · exfalso; simp_all)
              | (refine bool_eq ?_
                 rcases hP with ⟨hc, h6⟩ | ⟨hc, h0, h1, h2⟩
                 · exfalso; simp_all
                 · rw [h2]; simp)
          · skip
            have hkn := h13
            refine RO.opgv (v' := .d (.bool false)) rfl (opv_move rfl) rfl ?_
            refine RO.opv (v' := .d (.bool false)) (opv_pick rfl rfl) rfl ?_
            refine RO.nil ?_
            refine Runs.condF rfl ?_
            refine Runs.skip ?_
            refine thenQ_normal ?_
            refine Runs.has [(0, .d (.str _)), (1, .d (.list (encs _))), (4, .d (.bool false)), (5, .d (.bool true)), (9, .ref 1 0), (10, .d (.int _ _))] ⟨rfl, rfl, rfl, rfl, rfl, rfl, trivial⟩ ?_
            refine Runs.rseq ?_
            refine RO.opv (v' := .d (.bool true)) (opv_move rfl) rfl ?_
            refine RO.opv (v' := .d (.bool true)) (opv_move rfl) rfl ?_
            refine RO.opgv (v' := .d (.int _ _)) rfl (opv_move rfl) rfl ?_
            refine RO.opgv (v' := .d (.bool _)) rfl (opv_bin rfl rfl rfl) rfl ?_
            refine RO.opv (v' := .d (.bool _)) (opv_pick rfl rfl) rfl ?_
            refine RO.opc (opv_move rfl) (fun h14 => ?_) (fun h14 => ?_)
            · skip
              refine RO.opgv (v' := .ref 1 1) rfl (opv_field_ref rfl rfl) rfl ?_
              refine RO.opgv (v' := .ref 1 3) rfl (opv_field_ref rfl rfl) rfl ?_
              refine RO.opgv (v' := .d (.str _)) rfl (opv_load_ref rfl rfl rfl) rfl ?_
              refine RO.opgv (v' := .d (.str _)) rfl (opv_move rfl) rfl ?_
              refine RO.opgv (v' := .d (.bool _)) rfl (opv_bin rfl rfl rfl) rfl ?_
              refine RO.opv (v' := .d (.bool _)) (opv_pick rfl rfl) rfl ?_
              refine RO.opc (opv_move rfl) (fun h15 => ?_) (fun h15 => ?_)
              · skip
                refine RO.opgv (v' := .ref 1 1) rfl (opv_field_ref rfl rfl) rfl ?_
                refine RO.opgv (v' := .ref 1 4) rfl (opv_field_ref rfl rfl) rfl ?_
                refine RO.opgv (v' := .d (.list (encs _))) rfl (opv_load_ref rfl rfl rfl) rfl ?_
                refine RO.opgv (v' := .d (.int _ _)) rfl (opv_len_terms rfl) rfl ?_
                refine RO.opgv (v' := .d (.list (encs _))) rfl (opv_move rfl) rfl ?_
                refine RO.opgv (v' := .d (.int _ _)) rfl (opv_len_terms rfl) rfl ?_
                refine RO.opgv (v' := .d (.bool _)) rfl (opv_bin rfl rfl rfl) rfl ?_
                refine RO.opv (v' := .d (.bool _)) (opv_pick rfl rfl) rfl ?_
                refine RO.opv (v' := .d (.bool _)) (opv_assign rfl) rfl ?_
                refine RO.nil ?_
                refine Runs.ret ?_
                refine EndQ.tmp (.inr rfl) rfl rfl 0 (by exact Nat.le_refl _) (by exact Nat.zero_le _) trivial ⟨?_, rfl⟩
                first
                  | rfl
                  | (refine bool_eq ?_
                     rcases hP with ⟨hc, h6⟩ | ⟨hc, h0, h1, h2⟩
                     · rw [h6]; rfl
                     · exfalso; simp_all)
                  | (refine bool_eq ?_
                     rcases hP with ⟨hc, h6⟩ | ⟨hc, h0, h1, h2⟩
                     · exfalso; simp_all
                     · rw [h2]; simp)
              · skip
                rcases hP with ⟨hc, _⟩ | ⟨_, _, h0, _⟩
                · simp_all
                · rw [h0] at h15; simp at h15
            · skip
              rcases hP with ⟨hc, _⟩ | ⟨_, h0, _⟩
              · simp_all
              · rw [h0] at h14; exact absurd h14 (by decide)
end Go.Proofs.Ytmokkjmoneablaa.AM
