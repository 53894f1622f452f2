import Derived.Test.YtmokkjmoneablaaL0
namespace Go.Proofs.Ytmokkjmoneablaa.AM
open Go
set_option linter.unusedVariables false
set_option linter.unusedSimpArgs false
theorem dataGets_fn (ts : List Term) (more : Term) (s : ByteArray) (m : Int) (g1 : bulks ts ≤ 2 ^ 20) (_g1' : fitss ts) (g2 : more.bulk ≤ 2 ^ 20) (_g2' : more.fits) (g3 : s.size ≤ 2 ^ 20) (g4 : 0 ≤ m) (g4' : m ≤ 255) : Fn Try.prog 7 [.d (.list (encs ts)), .d (enc more), .d (.str s), .d (.int .u8 m)] [] (.d (.bool true)) [] := by
  have hk : 3 < 16 := by decide
  have hL := bulks_len ts
  have hab := bulks_app ts [more]
  have hb1' : bulks [more] = more.bulk + 0 := rfl
  have hla := newB_all_len (C 3) ts
  have hlb := newB_all_len (C 3) (ts ++ [more])
  have hsa := newB_small (l := C 3) (ts := ts) (by omega)
  have hsb := newB_small (l := C 3) (ts := ts ++ [more]) (by omega)
  have hsc := parseL_small (C 3) more
  obtain ⟨x, x0⟩ : ∃ x : Int, m.tmod 9 = x := ⟨_, rfl⟩
  have x1 : 0 ≤ x ∧ x ≤ 8 := by rw [Int.tmod_eq_emod_of_nonneg g4] at x0; omega
  refine Does.run Try.func7 rfl Try.ntmps7 rfl fun K hK => ?_
  refine Runs.rseq ?_
  refine RO.opn (v' := .ref 0 0) (O' := [_]) (opv_box_term rfl) rfl rfl ?_
  refine RO.opv (v' := .d (.bool false)) (opv_assign rfl) rfl ?_
  refine RO.nil ?_
  refine Runs.has [(0, .d (.list (encs _))), (2, .d (.str _)), (3, .d (.int _ _)), (5, .ref 0 0), (8, .d (.bool false))] ⟨rfl, rfl, rfl, rfl, rfl, trivial⟩ ?_
  refine Runs.rseq ?_
  refine RO.opv (v' := .d (.bool true)) (opv_callF (shown_fn) rfl rfl rfl trivial) rfl ?_
  refine RO.opv (v' := .d (.bool true)) (opv_assign rfl) rfl ?_
  refine RO.nil ?_
  refine Runs.has [(0, .d (.list (encs _))), (2, .d (.str _)), (3, .d (.int _ _)), (5, .ref 0 0), (8, .d (.bool false)), (9, .d (.bool true))] ⟨rfl, rfl, rfl, rfl, rfl, rfl, trivial⟩ ?_
  refine Runs.rseq ?_
  refine RO.opv (v' := .d (.list (encPs _))) (opv_callF (chainp_fn 3 (by decide)) rfl rfl rfl trivial) rfl ?_
  refine RO.opv (opv_callF (lnewC_fn 3 (by decide)) rfl rfl rfl ⟨trivial, trivial, trivial⟩) rfl ?_
  refine RO.opv (opv_move rfl) rfl ?_
  refine RO.opv (v' := .d (encL _)) (opv_extract rfl rfl) rfl ?_
  refine RO.opv (v' := .d (.int _ _)) (opv_extract rfl rfl) rfl ?_
  refine RO.opv (v' := .d (encL _)) (opv_assign rfl) rfl ?_
  refine RO.opv (v' := .d (.int _ _)) (opv_assign rfl) rfl ?_
  refine RO.nil ?_
  refine Runs.has [(0, .d (.list (encs _))), (2, .d (.str _)), (3, .d (.int _ _)), (5, .ref 0 0), (8, .d (.bool false)), (9, .d (.bool true)), (10, .d (encL _))] ⟨rfl, rfl, rfl, rfl, rfl, rfl, rfl, trivial⟩ ?_
  refine Runs.seq ?_
  refine Runs.rseq ?_
  refine RO.opv (v' := .d (encL _)) (opv_move rfl) rfl ?_
  refine RO.opv (v' := .d (.bool false)) (opv_eqnil rfl rfl rfl) rfl ?_
  refine RO.opv (v' := .d (.bool false)) (opv_move rfl) rfl ?_
  refine RO.opgv (v' := .d (.list (encs _))) rfl (opv_move rfl) rfl ?_
  refine RO.opgv (v' := .d (.bool _)) rfl (opv_callF (few_fn ts (by omega)) rfl rfl rfl trivial) rfl ?_
  refine RO.opgv (v' := .d (.bool _)) rfl (opv_not rfl rfl) rfl ?_
  refine RO.opv (v' := .d (.bool _)) (opv_pick rfl rfl) rfl ?_
  refine RO.opc (opv_move rfl) (fun h1 => ?_) (fun h1 => ?_)
  · try simp only [decide_eq_true_eq, decide_eq_false_iff_not, beq_iff_eq, beq_eq_false_iff_ne, bne_iff_ne, bne_eq_false_iff_eq, Int.not_lt, Int.not_le, ne_eq, Bool.not_eq_true', Bool.not_eq_false', gt_iff_lt, ge_iff_le] at h1
    refine RO.off rfl ?_
    refine RO.off rfl ?_
    refine RO.off rfl ?_
    refine RO.off rfl ?_
    refine RO.opv (v' := .d (.bool true)) (opv_pick rfl rfl) rfl ?_
    refine RO.opv (v' := .d (.bool true)) (opv_move rfl) rfl ?_
    refine RO.off rfl ?_
    refine RO.off rfl ?_
    refine RO.off rfl ?_
    refine RO.opv (v' := .d (.bool true)) (opv_pick rfl rfl) rfl ?_
    refine RO.nil ?_
    refine Runs.condT rfl ?_
    refine Runs.has [(0, .d (.list (encs _))), (2, .d (.str _)), (3, .d (.int _ _)), (5, .ref 0 0), (8, .d (.bool false)), (9, .d (.bool true)), (10, .d (encL _))] ⟨rfl, rfl, rfl, rfl, rfl, rfl, rfl, trivial⟩ ?_
    refine Runs.rseq ?_
    refine RO.opv (v' := .d (.bool true)) (opv_move rfl) rfl ?_
    refine RO.opv (v' := .d (.bool true)) (opv_move rfl) rfl ?_
    refine RO.opgv (v' := .d (encL _)) rfl (opv_move rfl) rfl ?_
    refine RO.opgv (v' := .d (.bool true)) rfl (opv_nenil rfl rfl rfl) rfl ?_
    refine RO.opv (v' := .d (.bool true)) (opv_pick rfl rfl) rfl ?_
    refine RO.opv (v' := .d (.bool true)) (opv_assign rfl) rfl ?_
    refine RO.nil ?_
    refine Runs.ret ?_
    refine thenQ_ret ?_
    refine EndQ.tmp (.inr rfl) rfl rfl 0 (by exact Nat.le_refl _) (by exact Nat.zero_le _) trivial ⟨?_, rfl⟩
    first
      | rfl
      | (exfalso; omega)
      | (refine bool_eq ?_
         rcases hM with ⟨_, _, _⟩ | ⟨hx, hy⟩
         · exfalso; omega
         · simp [hy]; done)
      | (refine bool_eq ?_
         rw [hKB, getB_more_no (by rw [Bool.eq_false_iff]; intro hh; exact hq1 (hasKey_iff.1 hh).1)]; exact sameCls_refl _)
      | (refine bool_eq ?_
         rw [hKB, getB_more_no (by rw [Bool.eq_false_iff]; intro hh; exact hq2 (hasKey_iff.1 hh).2)]; exact sameCls_refl _)
  · try simp only [decide_eq_true_eq, decide_eq_false_iff_not, beq_iff_eq, beq_eq_false_iff_ne, bne_iff_ne, bne_eq_false_iff_eq, Int.not_lt, Int.not_le, ne_eq, Bool.not_eq_true', Bool.not_eq_false', gt_iff_lt, ge_iff_le] at h1
    refine RO.opgv (v' := .d (enc _)) rfl (opv_load_term rfl rfl rfl) rfl ?_
    refine RO.opgv (v' := .d (.list (encs _))) rfl (opv_bs_term1 rfl ) rfl ?_
    refine RO.opgv (v' := .d (.bool _)) rfl (opv_callF (few_fn [more] (by omega)) rfl rfl rfl trivial) rfl ?_
    refine RO.opgv (v' := .d (.bool _)) rfl (opv_not rfl rfl) rfl ?_
    refine RO.opv (v' := .d (.bool _)) (opv_pick rfl rfl) rfl ?_
    refine RO.opc (opv_move rfl) (fun h2 => ?_) (fun h2 => ?_)
    · try simp only [decide_eq_true_eq, decide_eq_false_iff_not, beq_iff_eq, beq_eq_false_iff_ne, bne_iff_ne, bne_eq_false_iff_eq, Int.not_lt, Int.not_le, ne_eq, Bool.not_eq_true', Bool.not_eq_false', gt_iff_lt, ge_iff_le] at h2
      refine RO.off rfl ?_
      refine RO.off rfl ?_
      refine RO.off rfl ?_
      refine RO.opv (v' := .d (.bool true)) (opv_pick rfl rfl) rfl ?_
      refine RO.nil ?_
      refine Runs.condT rfl ?_
      refine Runs.has [(0, .d (.list (encs _))), (2, .d (.str _)), (3, .d (.int _ _)), (5, .ref 0 0), (8, .d (.bool false)), (9, .d (.bool true)), (10, .d (encL _))] ⟨rfl, rfl, rfl, rfl, rfl, rfl, rfl, trivial⟩ ?_
      refine Runs.rseq ?_
      refine RO.opv (v' := .d (.bool true)) (opv_move rfl) rfl ?_
      refine RO.opv (v' := .d (.bool true)) (opv_move rfl) rfl ?_
      refine RO.opgv (v' := .d (encL _)) rfl (opv_move rfl) rfl ?_
      refine RO.opgv (v' := .d (.bool true)) rfl (opv_nenil rfl rfl rfl) rfl ?_
      refine RO.opv (v' := .d (.bool true)) (opv_pick rfl rfl) rfl ?_
      refine RO.opv (v' := .d (.bool true)) (opv_assign rfl) rfl ?_
      refine RO.nil ?_
      refine Runs.ret ?_
      refine thenQ_ret ?_
      refine EndQ.tmp (.inr rfl) rfl rfl 0 (by exact Nat.le_refl _) (by exact Nat.zero_le _) trivial ⟨?_, rfl⟩
      first
        | rfl
        | (exfalso; omega)
        | (refine bool_eq ?_
           rcases hM with ⟨_, _, _⟩ | ⟨hx, hy⟩
           · exfalso; omega
           · simp [hy]; done)
        | (refine bool_eq ?_
           rw [hKB, getB_more_no (by rw [Bool.eq_false_iff]; intro hh; exact hq1 (hasKey_iff.1 hh).1)]; exact sameCls_refl _)
        | (refine bool_eq ?_
           rw [hKB, getB_more_no (by rw [Bool.eq_false_iff]; intro hh; exact hq2 (hasKey_iff.1 hh).2)]; exact sameCls_refl _)
    · try simp only [decide_eq_true_eq, decide_eq_false_iff_not, beq_iff_eq, beq_eq_false_iff_ne, bne_iff_ne, bne_eq_false_iff_eq, Int.not_lt, Int.not_le, ne_eq, Bool.not_eq_true', Bool.not_eq_false', gt_iff_lt, ge_iff_le] at h2
      refine RO.opgv (v' := .d (.list (encs _))) rfl (opv_move rfl) rfl ?_
      refine RO.opgv (v' := .d (.int _ _)) rfl (opv_len_terms rfl) rfl ?_
      refine RO.opgv (v' := .d (.bool _)) rfl (opv_bin rfl rfl rfl) rfl ?_
      refine RO.opc (opv_pick rfl rfl) (fun h3 => ?_) (fun h3 => ?_)
      · try simp only [decide_eq_true_eq, decide_eq_false_iff_not, beq_iff_eq, beq_eq_false_iff_ne, bne_iff_ne, bne_eq_false_iff_eq, Int.not_lt, Int.not_le, ne_eq, Bool.not_eq_true', Bool.not_eq_false', gt_iff_lt, ge_iff_le] at h3
        skip
        refine RO.nil ?_
        refine Runs.condT rfl ?_
        refine Runs.has [(0, .d (.list (encs _))), (2, .d (.str _)), (3, .d (.int _ _)), (5, .ref 0 0), (8, .d (.bool false)), (9, .d (.bool true)), (10, .d (encL _))] ⟨rfl, rfl, rfl, rfl, rfl, rfl, rfl, trivial⟩ ?_
        refine Runs.rseq ?_
        refine RO.opv (v' := .d (.bool true)) (opv_move rfl) rfl ?_
        refine RO.opv (v' := .d (.bool true)) (opv_move rfl) rfl ?_
        refine RO.opgv (v' := .d (encL _)) rfl (opv_move rfl) rfl ?_
        refine RO.opgv (v' := .d (.bool true)) rfl (opv_nenil rfl rfl rfl) rfl ?_
        refine RO.opv (v' := .d (.bool true)) (opv_pick rfl rfl) rfl ?_
        refine RO.opv (v' := .d (.bool true)) (opv_assign rfl) rfl ?_
        refine RO.nil ?_
        refine Runs.ret ?_
        refine thenQ_ret ?_
        refine EndQ.tmp (.inr rfl) rfl rfl 0 (by exact Nat.le_refl _) (by exact Nat.zero_le _) trivial ⟨?_, rfl⟩
        first
          | rfl
          | (exfalso; omega)
          | (refine bool_eq ?_
             rcases hM with ⟨_, _, _⟩ | ⟨hx, hy⟩
             · exfalso; omega
             · simp [hy]; done)
          | (refine bool_eq ?_
             rw [hKB, getB_more_no (by rw [Bool.eq_false_iff]; intro hh; exact hq1 (hasKey_iff.1 hh).1)]; exact sameCls_refl _)
          | (refine bool_eq ?_
             rw [hKB, getB_more_no (by rw [Bool.eq_false_iff]; intro hh; exact hq2 (hasKey_iff.1 hh).2)]; exact sameCls_refl _)
      · try simp only [decide_eq_true_eq, decide_eq_false_iff_not, beq_iff_eq, beq_eq_false_iff_ne, bne_iff_ne, bne_eq_false_iff_eq, Int.not_lt, Int.not_le, ne_eq, Bool.not_eq_true', Bool.not_eq_false', gt_iff_lt, ge_iff_le] at h3
        have hl150 : ts.length ≤ 150 := by omega
        have hM := newB_more (l := C 3) (ts := ts) (more := more) hl150
        refine RO.nil ?_
        refine Runs.condF rfl ?_
        refine Runs.skip ?_
        refine thenQ_normal ?_
        refine Runs.has [(0, .d (.list (encs _))), (2, .d (.str _)), (3, .d (.int _ _)), (5, .ref 0 0), (8, .d (.bool false)), (9, .d (.bool true)), (10, .d (encL _))] ⟨rfl, rfl, rfl, rfl, rfl, rfl, rfl, trivial⟩ ?_
        refine Runs.rseq ?_
        refine RO.opv (v' := .d (encL _)) (opv_move rfl) rfl ?_
        refine RO.opv (v' := .d (.list (encs _))) (opv_move rfl) rfl ?_
        refine RO.opv (opv_callF (dnew_fn (C 3) (C_ok (by decide)) ts (by omega)) rfl rfl rfl ⟨trivial, trivial, trivial, trivial⟩) rfl ?_
        refine RO.opv (opv_move rfl) rfl ?_
        refine RO.opv (v' := .d (encOB _ _)) (opv_extract rfl rfl) rfl ?_
        refine RO.opv (v' := .d (.int _ _)) (opv_extract rfl rfl) rfl ?_
        refine RO.opv (v' := .d (.int _ _)) (opv_extract rfl rfl) rfl ?_
        refine RO.opv (v' := .d (encOB _ _)) (opv_assign rfl) rfl ?_
        refine RO.opv (v' := .d (.int _ _)) (opv_assign rfl) rfl ?_
        refine RO.opv (v' := .d (.int _ _)) (opv_assign rfl) rfl ?_
        refine RO.nil ?_
        refine Runs.has [(0, .d (.list (encs _))), (2, .d (.str _)), (3, .d (.int _ _)), (5, .ref 0 0), (8, .d (.bool false)), (9, .d (.bool true)), (10, .d (encL _)), (12, .d (encOB _ _)), (14, .d (.int _ _))] ⟨rfl, rfl, rfl, rfl, rfl, rfl, rfl, rfl, rfl, trivial⟩ ?_
        refine Runs.seq ?_
        refine Runs.drawn (by kernel_rfl) [0] [true, false, false, false, true, true, false, false, false, false, false, false, false, false, false] [false, false, false, true, false, false, true, false, false, false, false, false, false, false, false] (by decide +kernel) ?_
        refine RD.opa (v' := .d (encL _)) (fun O' hkeep => opv_move rfl) rfl ?_
        refine RD.opv (v' := .nil0) (opv_buildSlice0 rfl) rfl ?_
        refine RD.opv (v' := .d (.list (encs _))) (opv_move rfl) rfl ?_
        refine RD.opn (v' := .own 1 _) (O' := [_, _]) (opv_append_terms0 rfl rfl (by omega)) rfl rfl ⟨rfl, trivial⟩ ?_
        refine RD.opa (v' := .d (enc _)) (fun O' hkeep => opv_load_term rfl (hkeep.1.trans rfl) rfl) rfl ?_
        refine RD.opa (v' := .d (.list (encs _))) (fun O' hkeep => opv_bs_term1 rfl ) rfl ?_
        refine RD.opn (v' := .d (.list (encs _))) (O' := [_, _]) (OpV.shut (opv_append_terms rfl rfl rfl (by simp; omega)) rfl) rfl rfl ⟨rfl, trivial⟩ ?_
        refine RD.opv (opv_callF (dnew_fn (C 3) (C_ok (by decide)) (ts ++ [more]) (by omega)) rfl rfl rfl ⟨trivial, trivial, trivial, trivial⟩) rfl ?_
        refine RD.opv (opv_move rfl) rfl ?_
        refine RD.opv (v' := .d (encOB _ _)) (opv_extract rfl rfl) rfl ?_
        refine RD.opv (v' := .d (.int _ _)) (opv_extract rfl rfl) rfl ?_
        refine RD.opv (v' := .d (.int _ _)) (opv_extract rfl rfl) rfl ?_
        refine RD.opv (v' := .d (encOB _ _)) (opv_assign rfl) rfl ?_
        refine RD.opv (v' := .d (.int _ _)) (opv_assign rfl) rfl ?_
        refine RD.opv (v' := .d (.int _ _)) (opv_assign rfl) rfl ?_
        refine RD.nil ?_
        refine thenQ_normal ?_
        refine Runs.has [(2, .d (.str _)), (3, .d (.int _ _)), (5, .ref 0 0), (8, .d (.bool false)), (9, .d (.bool true)), (10, .d (encL _)), (12, .d (encOB _ _)), (14, .d (.int _ _)), (15, .d (encOB _ _)), (17, .d (.int _ _))] ⟨rfl, rfl, rfl, rfl, rfl, rfl, rfl, rfl, rfl, rfl, trivial⟩ ?_
        refine Runs.rseq ?_
        refine RO.opv (v' := .d (encL _)) (opv_move rfl) rfl ?_
        refine RO.opv (v' := .d (enc _)) (opv_load_term rfl rfl rfl) rfl ?_
        refine RO.opv (opv_callF (parse_fn (C 3) (C_ok (by decide)) more (by omega)) rfl rfl rfl ⟨trivial, trivial, trivial⟩) rfl ?_
        refine RO.opv (opv_move rfl) rfl ?_
        refine RO.opv (v' := .d (encCl _)) (opv_extract rfl rfl) rfl ?_
        refine RO.opv (v' := .d (.int _ _)) (opv_extract rfl rfl) rfl ?_
        refine RO.opn (v' := .ref 2 0) (O' := [_, _, _]) (opv_alloc) rfl rfl ?_
        refine RO.op0n (O' := [_, _, _]) (opv_store_cl rfl rfl rfl rfl) rfl ?_
        refine RO.opv (v' := .d (.int _ _)) (opv_assign rfl) rfl ?_
        refine RO.nil ?_
        refine Runs.has [(2, .d (.str _)), (3, .d (.int _ _)), (8, .d (.bool false)), (9, .d (.bool true)), (12, .d (encOB _ _)), (14, .d (.int _ _)), (15, .d (encOB _ _)), (17, .d (.int _ _)), (18, .ref 2 0), (19, .d (.int _ _))] ⟨rfl, rfl, rfl, rfl, rfl, rfl, rfl, rfl, rfl, rfl, trivial⟩ ?_
        refine Runs.seq ?_
        refine Runs.rseq ?_
        refine RO.opv (v' := .d (.int _ _)) (opv_move rfl) rfl ?_
        refine RO.opv (v' := .d (.bool _)) (opv_bin rfl rfl rfl) rfl ?_
        refine RO.opc (opv_move rfl) (fun h4 => ?_) (fun h4 => ?_)
        · try simp only [decide_eq_true_eq, decide_eq_false_iff_not, beq_iff_eq, beq_eq_false_iff_ne, bne_iff_ne, bne_eq_false_iff_eq, Int.not_lt, Int.not_le, ne_eq, Bool.not_eq_true', Bool.not_eq_false', gt_iff_lt, ge_iff_le] at h4
          have ha0 := h4
          refine RO.off rfl ?_
          refine RO.off rfl ?_
          refine RO.opv (v' := .d (.bool true)) (opv_pick rfl rfl) rfl ?_
          refine RO.opv (v' := .d (.bool true)) (opv_move rfl) rfl ?_
          refine RO.off rfl ?_
          refine RO.off rfl ?_
          refine RO.opv (v' := .d (.bool true)) (opv_pick rfl rfl) rfl ?_
          refine RO.opv (v' := .d (.bool true)) (opv_move rfl) rfl ?_
          refine RO.off rfl ?_
          refine RO.off rfl ?_
          refine RO.opv (v' := .d (.bool true)) (opv_pick rfl rfl) rfl ?_
          refine RO.nil ?_
          refine Runs.condT rfl ?_
          refine Runs.has [(2, .d (.str _)), (3, .d (.int _ _)), (8, .d (.bool false)), (9, .d (.bool true)), (12, .d (encOB _ _)), (14, .d (.int _ _)), (15, .d (encOB _ _)), (17, .d (.int _ _)), (18, .ref 2 0), (19, .d (.int _ _))] ⟨rfl, rfl, rfl, rfl, rfl, rfl, rfl, rfl, rfl, rfl, trivial⟩ ?_
          refine Runs.rseq ?_
          refine RO.opv (v' := .d (.bool true)) (opv_move rfl) rfl ?_
          refine RO.opv (v' := .d (.bool true)) (opv_move rfl) rfl ?_
          refine RO.opgv (v' := .d (.int _ _)) rfl (opv_move rfl) rfl ?_
          refine RO.opgv (v' := .d (.bool _)) rfl (opv_bin rfl rfl rfl) rfl ?_
          refine RO.opgc rfl (opv_move rfl) (fun h5 => ?_) (fun h5 => ?_)
          · try simp only [decide_eq_true_eq, decide_eq_false_iff_not, beq_iff_eq, beq_eq_false_iff_ne, bne_iff_ne, bne_eq_false_iff_eq, Int.not_lt, Int.not_le, ne_eq, Bool.not_eq_true', Bool.not_eq_false', gt_iff_lt, ge_iff_le] at h5
            refine RO.off rfl ?_
            refine RO.off rfl ?_
            refine RO.opgv (v' := .d (.bool true)) rfl (opv_pick rfl rfl) rfl ?_
            refine RO.opv (v' := .d (.bool true)) (opv_pick rfl rfl) rfl ?_
            refine RO.opv (v' := .d (.bool true)) (opv_move rfl) rfl ?_
            refine RO.opgv (v' := .d (.int _ _)) rfl (opv_move rfl) rfl ?_
            refine RO.opgv (v' := .d (.bool _)) rfl (opv_bin rfl rfl rfl) rfl ?_
            refine RO.opv (v' := .d (.bool _)) (opv_pick rfl rfl) rfl ?_
            refine RO.opv (v' := .d (.bool _)) (opv_assign rfl) rfl ?_
            refine RO.nil ?_
            refine Runs.ret ?_
            refine thenQ_ret ?_
            refine EndQ.tmp (.inr rfl) rfl rfl 0 (by exact Nat.le_refl _) (by exact Nat.zero_le _) trivial ⟨?_, rfl⟩
            first
              | rfl
              | (exfalso; omega)
              | (refine bool_eq ?_
                 rcases hM with ⟨_, _, _⟩ | ⟨hx, hy⟩
                 · exfalso; omega
                 · simp [hy]; done)
              | (refine bool_eq ?_
                 rw [hKB, getB_more_no (by rw [Bool.eq_false_iff]; intro hh; exact hq1 (hasKey_iff.1 hh).1)]; exact sameCls_refl _)
              | (refine bool_eq ?_
                 rw [hKB, getB_more_no (by rw [Bool.eq_false_iff]; intro hh; exact hq2 (hasKey_iff.1 hh).2)]; exact sameCls_refl _)
          · try simp only [decide_eq_true_eq, decide_eq_false_iff_not, beq_iff_eq, beq_eq_false_iff_ne, bne_iff_ne, bne_eq_false_iff_eq, Int.not_lt, Int.not_le, ne_eq, Bool.not_eq_true', Bool.not_eq_false', gt_iff_lt, ge_iff_le] at h5
            refine RO.opgv (v' := .d (.int _ _)) rfl (opv_move rfl) rfl ?_
            refine RO.opgv (v' := .d (.bool _)) rfl (opv_bin rfl rfl rfl) rfl ?_
            refine RO.opgv (v' := .d (.bool _)) rfl (opv_pick rfl rfl) rfl ?_
            refine RO.opv (v' := .d (.bool _)) (opv_pick rfl rfl) rfl ?_
            refine RO.opc (opv_move rfl) (fun h6 => ?_) (fun h6 => ?_)
            · try simp only [decide_eq_true_eq, decide_eq_false_iff_not, beq_iff_eq, beq_eq_false_iff_ne, bne_iff_ne, bne_eq_false_iff_eq, Int.not_lt, Int.not_le, ne_eq, Bool.not_eq_true', Bool.not_eq_false', gt_iff_lt, ge_iff_le] at h6
              refine RO.opgv (v' := .d (.int _ _)) rfl (opv_move rfl) rfl ?_
              refine RO.opgv (v' := .d (.bool _)) rfl (opv_bin rfl rfl rfl) rfl ?_
              refine RO.opv (v' := .d (.bool _)) (opv_pick rfl rfl) rfl ?_
              refine RO.opv (v' := .d (.bool _)) (opv_assign rfl) rfl ?_
              refine RO.nil ?_
              refine Runs.ret ?_
              refine thenQ_ret ?_
              refine EndQ.tmp (.inr rfl) rfl rfl 0 (by exact Nat.le_refl _) (by exact Nat.zero_le _) trivial ⟨?_, rfl⟩
              first
                | rfl
                | (exfalso; omega)
                | (refine bool_eq ?_
                   rcases hM with ⟨_, _, _⟩ | ⟨hx, hy⟩
                   · exfalso; omega
                   · simp [hy]; done)
                | (refine bool_eq ?_
                   rw [hKB, getB_more_no (by rw [Bool.eq_false_iff]; intro hh; exact hq1 (hasKey_iff.1 hh).1)]; exact sameCls_refl _)
                | (refine bool_eq ?_
                   rw [hKB, getB_more_no (by rw [Bool.eq_false_iff]; intro hh; exact hq2 (hasKey_iff.1 hh).2)]; exact sameCls_refl _)
            · try simp only [decide_eq_true_eq, decide_eq_false_iff_not, beq_iff_eq, beq_eq_false_iff_ne, bne_iff_ne, bne_eq_false_iff_eq, Int.not_lt, Int.not_le, ne_eq, Bool.not_eq_true', Bool.not_eq_false', gt_iff_lt, ge_iff_le] at h6
              refine RO.off rfl ?_
              refine RO.off rfl ?_
              refine RO.opv (v' := .d (.bool false)) (opv_pick rfl rfl) rfl ?_
              refine RO.opv (v' := .d (.bool false)) (opv_assign rfl) rfl ?_
              refine RO.nil ?_
              refine Runs.ret ?_
              refine thenQ_ret ?_
              refine EndQ.tmp (.inr rfl) rfl rfl 0 (by exact Nat.le_refl _) (by exact Nat.zero_le _) trivial ⟨?_, rfl⟩
              first
                | rfl
                | (exfalso; omega)
                | (refine bool_eq ?_
                   rcases hM with ⟨_, _, _⟩ | ⟨hx, hy⟩
                   · exfalso; omega
                   · simp [hy]; done)
                | (refine bool_eq ?_
                   rw [hKB, getB_more_no (by rw [Bool.eq_false_iff]; intro hh; exact hq1 (hasKey_iff.1 hh).1)]; exact sameCls_refl _)
                | (refine bool_eq ?_
                   rw [hKB, getB_more_no (by rw [Bool.eq_false_iff]; intro hh; exact hq2 (hasKey_iff.1 hh).2)]; exact sameCls_refl _)
        · try simp only [decide_eq_true_eq, decide_eq_false_iff_not, beq_iff_eq, beq_eq_false_iff_ne, bne_iff_ne, bne_eq_false_iff_eq, Int.not_lt, Int.not_le, ne_eq, Bool.not_eq_true', Bool.not_eq_false', gt_iff_lt, ge_iff_le] at h4
          have ha0 : (newB (C 3) ts).2.2 = 0 := h4
          refine RO.opgv (v' := .d (.int _ _)) rfl (opv_move rfl) rfl ?_
          refine RO.opgv (v' := .d (.bool _)) rfl (opv_bin rfl rfl rfl) rfl ?_
          refine RO.opv (v' := .d (.bool _)) (opv_pick rfl rfl) rfl ?_
          refine RO.opc (opv_move rfl) (fun h7 => ?_) (fun h7 => ?_)
          · try simp only [decide_eq_true_eq, decide_eq_false_iff_not, beq_iff_eq, beq_eq_false_iff_ne, bne_iff_ne, bne_eq_false_iff_eq, Int.not_lt, Int.not_le, ne_eq, Bool.not_eq_true', Bool.not_eq_false', gt_iff_lt, ge_iff_le] at h7
            have hp0 := h7
            refine RO.off rfl ?_
            refine RO.off rfl ?_
            refine RO.opv (v' := .d (.bool true)) (opv_pick rfl rfl) rfl ?_
            refine RO.opv (v' := .d (.bool true)) (opv_move rfl) rfl ?_
            refine RO.off rfl ?_
            refine RO.off rfl ?_
            refine RO.opv (v' := .d (.bool true)) (opv_pick rfl rfl) rfl ?_
            refine RO.nil ?_
            refine Runs.condT rfl ?_
            refine Runs.has [(2, .d (.str _)), (3, .d (.int _ _)), (8, .d (.bool false)), (9, .d (.bool true)), (12, .d (encOB _ _)), (14, .d (.int _ _)), (15, .d (encOB _ _)), (17, .d (.int _ _)), (18, .ref 2 0), (19, .d (.int _ _))] ⟨rfl, rfl, rfl, rfl, rfl, rfl, rfl, rfl, rfl, rfl, trivial⟩ ?_
            refine Runs.rseq ?_
            refine RO.opv (v' := .d (.bool true)) (opv_move rfl) rfl ?_
            refine RO.opv (v' := .d (.bool true)) (opv_move rfl) rfl ?_
            refine RO.opgv (v' := .d (.int _ _)) rfl (opv_move rfl) rfl ?_
            refine RO.opgv (v' := .d (.bool _)) rfl (opv_bin rfl rfl rfl) rfl ?_
            refine RO.opgc rfl (opv_move rfl) (fun h8 => ?_) (fun h8 => ?_)
            · try simp only [decide_eq_true_eq, decide_eq_false_iff_not, beq_iff_eq, beq_eq_false_iff_ne, bne_iff_ne, bne_eq_false_iff_eq, Int.not_lt, Int.not_le, ne_eq, Bool.not_eq_true', Bool.not_eq_false', gt_iff_lt, ge_iff_le] at h8
              refine RO.off rfl ?_
              refine RO.off rfl ?_
              refine RO.opgv (v' := .d (.bool true)) rfl (opv_pick rfl rfl) rfl ?_
              refine RO.opv (v' := .d (.bool true)) (opv_pick rfl rfl) rfl ?_
              refine RO.opv (v' := .d (.bool true)) (opv_move rfl) rfl ?_
              refine RO.opgv (v' := .d (.int _ _)) rfl (opv_move rfl) rfl ?_
              refine RO.opgv (v' := .d (.bool _)) rfl (opv_bin rfl rfl rfl) rfl ?_
              refine RO.opv (v' := .d (.bool _)) (opv_pick rfl rfl) rfl ?_
              refine RO.opv (v' := .d (.bool _)) (opv_assign rfl) rfl ?_
              refine RO.nil ?_
              refine Runs.ret ?_
              refine thenQ_ret ?_
              refine EndQ.tmp (.inr rfl) rfl rfl 0 (by exact Nat.le_refl _) (by exact Nat.zero_le _) trivial ⟨?_, rfl⟩
              first
                | rfl
                | (exfalso; omega)
                | (refine bool_eq ?_
                   rcases hM with ⟨_, _, _⟩ | ⟨hx, hy⟩
                   · exfalso; omega
                   · simp [hy]; done)
                | (refine bool_eq ?_
                   rw [hKB, getB_more_no (by rw [Bool.eq_false_iff]; intro hh; exact hq1 (hasKey_iff.1 hh).1)]; exact sameCls_refl _)
                | (refine bool_eq ?_
                   rw [hKB, getB_more_no (by rw [Bool.eq_false_iff]; intro hh; exact hq2 (hasKey_iff.1 hh).2)]; exact sameCls_refl _)
            · try simp only [decide_eq_true_eq, decide_eq_false_iff_not, beq_iff_eq, beq_eq_false_iff_ne, bne_iff_ne, bne_eq_false_iff_eq, Int.not_lt, Int.not_le, ne_eq, Bool.not_eq_true', Bool.not_eq_false', gt_iff_lt, ge_iff_le] at h8
              refine RO.opgv (v' := .d (.int _ _)) rfl (opv_move rfl) rfl ?_
              refine RO.opgv (v' := .d (.bool _)) rfl (opv_bin rfl rfl rfl) rfl ?_
              refine RO.opgv (v' := .d (.bool _)) rfl (opv_pick rfl rfl) rfl ?_
              refine RO.opv (v' := .d (.bool _)) (opv_pick rfl rfl) rfl ?_
              refine RO.opc (opv_move rfl) (fun h9 => ?_) (fun h9 => ?_)
              · try simp only [decide_eq_true_eq, decide_eq_false_iff_not, beq_iff_eq, beq_eq_false_iff_ne, bne_iff_ne, bne_eq_false_iff_eq, Int.not_lt, Int.not_le, ne_eq, Bool.not_eq_true', Bool.not_eq_false', gt_iff_lt, ge_iff_le] at h9
                refine RO.opgv (v' := .d (.int _ _)) rfl (opv_move rfl) rfl ?_
                refine RO.opgv (v' := .d (.bool _)) rfl (opv_bin rfl rfl rfl) rfl ?_
                refine RO.opv (v' := .d (.bool _)) (opv_pick rfl rfl) rfl ?_
                refine RO.opv (v' := .d (.bool _)) (opv_assign rfl) rfl ?_
                refine RO.nil ?_
                refine Runs.ret ?_
                refine thenQ_ret ?_
                refine EndQ.tmp (.inr rfl) rfl rfl 0 (by exact Nat.le_refl _) (by exact Nat.zero_le _) trivial ⟨?_, rfl⟩
                first
                  | rfl
                  | (exfalso; omega)
                  | (refine bool_eq ?_
                     rcases hM with ⟨_, _, _⟩ | ⟨hx, hy⟩
                     · exfalso; omega
                     · simp [hy]; done)
                  | (refine bool_eq ?_
                     rw [hKB, getB_more_no (by rw [Bool.eq_false_iff]; intro hh; exact hq1 (hasKey_iff.1 hh).1)]; exact sameCls_refl _)
                  | (refine bool_eq ?_
                     rw [hKB, getB_more_no (by rw [Bool.eq_false_iff]; intro hh; exact hq2 (hasKey_iff.1 hh).2)]; exact sameCls_refl _)
              · try simp only [decide_eq_true_eq, decide_eq_false_iff_not, beq_iff_eq, beq_eq_false_iff_ne, bne_iff_ne, bne_eq_false_iff_eq, Int.not_lt, Int.not_le, ne_eq, Bool.not_eq_true', Bool.not_eq_false', gt_iff_lt, ge_iff_le] at h9
                refine RO.off rfl ?_
                refine RO.off rfl ?_
                refine RO.opv (v' := .d (.bool false)) (opv_pick rfl rfl) rfl ?_
                refine RO.opv (v' := .d (.bool false)) (opv_assign rfl) rfl ?_
                refine RO.nil ?_
                refine Runs.ret ?_
                refine thenQ_ret ?_
                refine EndQ.tmp (.inr rfl) rfl rfl 0 (by exact Nat.le_refl _) (by exact Nat.zero_le _) trivial ⟨?_, rfl⟩
                first
                  | rfl
                  | (exfalso; omega)
                  | (refine bool_eq ?_
                     rcases hM with ⟨_, _, _⟩ | ⟨hx, hy⟩
                     · exfalso; omega
                     · simp [hy]; done)
                  | (refine bool_eq ?_
                     rw [hKB, getB_more_no (by rw [Bool.eq_false_iff]; intro hh; exact hq1 (hasKey_iff.1 hh).1)]; exact sameCls_refl _)
                  | (refine bool_eq ?_
                     rw [hKB, getB_more_no (by rw [Bool.eq_false_iff]; intro hh; exact hq2 (hasKey_iff.1 hh).2)]; exact sameCls_refl _)
          · try simp only [decide_eq_true_eq, decide_eq_false_iff_not, beq_iff_eq, beq_eq_false_iff_ne, bne_iff_ne, bne_eq_false_iff_eq, Int.not_lt, Int.not_le, ne_eq, Bool.not_eq_true', Bool.not_eq_false', gt_iff_lt, ge_iff_le] at h7
            have hp0 : (parseL (C 3) more).2 = 0 := h7
            refine RO.opgv (v' := .d (encOB _ _)) rfl (opv_move rfl) rfl ?_
            refine RO.opgv (v' := .d (.bool _)) rfl (opv_eqnil_ob rfl rfl) rfl ?_
            refine RO.opv (v' := .d (.bool _)) (opv_pick rfl rfl) rfl ?_
            refine RO.opc (opv_move rfl) (fun h10 => ?_) (fun h10 => ?_)
            · try simp only [decide_eq_true_eq, decide_eq_false_iff_not, beq_iff_eq, beq_eq_false_iff_ne, bne_iff_ne, bne_eq_false_iff_eq, Int.not_lt, Int.not_le, ne_eq, Bool.not_eq_true', Bool.not_eq_false', gt_iff_lt, ge_iff_le] at h10
              skip
              rcases hM with ⟨_, _, m1, _, _⟩ | ⟨hx, _⟩
              · rw [m1] at h10; cases h10
              · omega
            · try simp only [decide_eq_true_eq, decide_eq_false_iff_not, beq_iff_eq, beq_eq_false_iff_ne, bne_iff_ne, bne_eq_false_iff_eq, Int.not_lt, Int.not_le, ne_eq, Bool.not_eq_true', Bool.not_eq_false', gt_iff_lt, ge_iff_le] at h10
              have hM' : (newB (C 3) ts).1 = some (parsesT (C 3) ts) ∧ (newB (C 3) (ts ++ [more])).2.2 = 0 ∧ (newB (C 3) (ts ++ [more])).1 = some (parsesT (C 3) ts ++ [(parseL (C 3) more).1]) := by
                rcases hM with ⟨_, _, m1, m2, m3⟩ | ⟨hx, _⟩
                · exact ⟨m1, m2, m3⟩
                · exfalso; omega
              obtain ⟨hA1, hF0, hB1⟩ := hM'
              have hKA : (allB (newB (C 3) ts).1) = parsesT (C 3) ts := by rw [hA1]; rfl
              have hKB : (allB (newB (C 3) (ts ++ [more])).1) = (allB (newB (C 3) ts).1) ++ [(parseL (C 3) more).1] := by rw [hB1, hA1]; rfl
              have hQ : (getB (allB (newB (C 3) (ts ++ [more])).1) (parseL (C 3) more).1.head.name ((parseL (C 3) more).1.head.kids.length : Int)) = getB (allB (newB (C 3) ts).1) (parseL (C 3) more).1.head.name ((parseL (C 3) more).1.head.kids.length : Int) ++ [(parseL (C 3) more).1] := by rw [hKB]; exact getB_more_yes (hasKey_self _)
              have hQl : (getB (allB (newB (C 3) (ts ++ [more])).1) (parseL (C 3) more).1.head.name ((parseL (C 3) more).1.head.kids.length : Int)).length = (getB (allB (newB (C 3) ts).1) (parseL (C 3) more).1.head.name ((parseL (C 3) more).1.head.kids.length : Int)).length + 1 := by rw [hQ]; simp
              have hQb := getB_len_le (allB (newB (C 3) ts).1) (parseL (C 3) more).1.head.name ((parseL (C 3) more).1.head.kids.length : Int)
              have hxl := getB_len_le (allB (newB (C 3) ts).1) s x
              refine RO.opgv (v' := .d (encOB _ _)) rfl (opv_move rfl) rfl ?_
              refine RO.opgv (v' := .d (.bool _)) rfl (opv_eqnil_ob rfl rfl) rfl ?_
              refine RO.opc (opv_pick rfl rfl) (fun h11 => ?_) (fun h11 => ?_)
              · try simp only [decide_eq_true_eq, decide_eq_false_iff_not, beq_iff_eq, beq_eq_false_iff_ne, bne_iff_ne, bne_eq_false_iff_eq, Int.not_lt, Int.not_le, ne_eq, Bool.not_eq_true', Bool.not_eq_false', gt_iff_lt, ge_iff_le] at h11
                rw [hB1] at h11; cases h11
              · try simp only [decide_eq_true_eq, decide_eq_false_iff_not, beq_iff_eq, beq_eq_false_iff_ne, bne_iff_ne, bne_eq_false_iff_eq, Int.not_lt, Int.not_le, ne_eq, Bool.not_eq_true', Bool.not_eq_false', gt_iff_lt, ge_iff_le] at h11
                refine RO.nil ?_
                refine Runs.condF rfl ?_
                refine Runs.skip ?_
                refine thenQ_normal ?_
                refine Runs.has [(2, .d (.str _)), (3, .d (.int _ _)), (8, .d (.bool false)), (9, .d (.bool true)), (12, .d (encOB _ _)), (15, .d (encOB _ _)), (17, .d (.int _ _)), (18, .ref 2 0)] ⟨rfl, rfl, rfl, rfl, rfl, rfl, rfl, rfl, trivial⟩ ?_
                refine Runs.rseq ?_
                refine RO.opv (v' := .d (.int _ _)) (opv_move rfl) rfl ?_
                refine RO.opv (v' := .d (.int _ _)) (opv_arith (r := x) rfl rfl (by simp only [binD, if_true]; rw [if_neg (by decide), x0])) rfl ?_
                refine RO.opv (v' := .d (.int _ _)) (opv_conv (r := x) rfl (wrap64 (by omega) (by omega))) rfl ?_
                refine RO.opv (v' := .d (.int _ _)) (opv_assign rfl) rfl ?_
                refine RO.nil ?_
                refine Runs.has [(2, .d (.str _)), (8, .d (.bool false)), (9, .d (.bool true)), (12, .d (encOB _ _)), (15, .d (encOB _ _)), (17, .d (.int _ _)), (18, .ref 2 0), (20, .d (.int _ _))] ⟨rfl, rfl, rfl, rfl, rfl, rfl, rfl, rfl, trivial⟩ ?_
                refine Runs.rseq ?_
                refine RO.opv (v' := .d (encOB _ _)) (opv_move rfl) rfl ?_
                refine RO.opv (v' := .d (.str _)) (opv_move rfl) rfl ?_
                refine RO.opv (v' := .d (.int _ _)) (opv_move rfl) rfl ?_
                refine RO.opv (v' := .d (.list (encCls _))) (opv_callF (get_fn (C 3) (newB (C 3) ts).1 hla s x) rfl rfl rfl trivial) rfl ?_
                refine RO.opv (v' := .d (.list (encCls _))) (opv_assign rfl) rfl ?_
                refine RO.nil ?_
                refine Runs.has [(2, .d (.str _)), (8, .d (.bool false)), (9, .d (.bool true)), (15, .d (encOB _ _)), (17, .d (.int _ _)), (18, .ref 2 0), (20, .d (.int _ _)), (21, .d (.list (encCls _)))] ⟨rfl, rfl, rfl, rfl, rfl, rfl, rfl, rfl, trivial⟩ ?_
                refine Runs.rseq ?_
                refine RO.opv (v' := .d (encOB _ _)) (opv_move rfl) rfl ?_
                refine RO.opv (v' := .d (.str _)) (opv_move rfl) rfl ?_
                refine RO.opv (v' := .d (.int _ _)) (opv_move rfl) rfl ?_
                refine RO.opv (v' := .d (.list (encCls _))) (opv_callF (get_fn (C 3) (newB (C 3) (ts ++ [more])).1 hlb s x) rfl rfl rfl trivial) rfl ?_
                refine RO.opv (v' := .d (.list (encCls _))) (opv_assign rfl) rfl ?_
                refine RO.nil ?_
                refine Runs.has [(2, .d (.str _)), (8, .d (.bool false)), (9, .d (.bool true)), (15, .d (encOB _ _)), (17, .d (.int _ _)), (18, .ref 2 0), (20, .d (.int _ _)), (21, .d (.list (encCls _))), (22, .d (.list (encCls _)))] ⟨rfl, rfl, rfl, rfl, rfl, rfl, rfl, rfl, rfl, trivial⟩ ?_
                refine Runs.rseq ?_
                refine RO.opv (v' := .ref 2 1) (opv_field_ref rfl rfl) rfl ?_
                refine RO.opv (v' := .ref 2 3) (opv_field_ref rfl rfl) rfl ?_
                refine RO.opv (v' := .d (.str _)) (opv_load_ref rfl rfl rfl) rfl ?_
                refine RO.opv (v' := .d (.str _)) (opv_move rfl) rfl ?_
                refine RO.opv (v' := .d (.bool _)) (opv_bin rfl rfl rfl) rfl ?_
                refine RO.opc (opv_move rfl) (fun h12 => ?_) (fun h12 => ?_)
                · try simp only [decide_eq_true_eq, decide_eq_false_iff_not, beq_iff_eq, beq_eq_false_iff_ne, bne_iff_ne, bne_eq_false_iff_eq, Int.not_lt, Int.not_le, ne_eq, Bool.not_eq_true', Bool.not_eq_false', gt_iff_lt, ge_iff_le] at h12
                  have hq1 := h12
                  refine RO.opgv (v' := .ref 2 1) rfl (opv_field_ref rfl rfl) rfl ?_
                  refine RO.opgv (v' := .ref 2 4) rfl (opv_field_ref rfl rfl) rfl ?_
                  refine RO.opgv (v' := .d (.list (encs _))) rfl (opv_load_ref rfl rfl rfl) rfl ?_
                  refine RO.opgv (v' := .d (.int _ _)) rfl (opv_len_terms rfl) rfl ?_
                  refine RO.opgv (v' := .d (.int _ _)) rfl (opv_move rfl) rfl ?_
                  refine RO.opgv (v' := .d (.bool _)) rfl (opv_bin rfl rfl rfl) rfl ?_
                  refine RO.opv (v' := .d (.bool _)) (opv_pick rfl rfl) rfl ?_
                  refine RO.opv (v' := .d (.bool _)) (opv_assign rfl) rfl ?_
                  refine RO.nil ?_
                  refine Runs.has [(8, .d (.bool false)), (9, .d (.bool true)), (15, .d (encOB _ _)), (17, .d (.int _ _)), (18, .ref 2 0), (21, .d (.list (encCls _))), (22, .d (.list (encCls _))), (23, .d (.bool _))] ⟨rfl, rfl, rfl, rfl, rfl, rfl, rfl, rfl, trivial⟩ ?_
                  refine Runs.rseq ?_
                  refine RO.opv (v' := .d (encOB _ _)) (opv_move rfl) rfl ?_
                  refine RO.opv (v' := .ref 2 1) (opv_field_ref rfl rfl) rfl ?_
                  refine RO.opv (v' := .ref 2 3) (opv_field_ref rfl rfl) rfl ?_
                  refine RO.opv (v' := .d (.str _)) (opv_load_ref rfl rfl rfl) rfl ?_
                  refine RO.opv (v' := .ref 2 1) (opv_field_ref rfl rfl) rfl ?_
                  refine RO.opv (v' := .ref 2 4) (opv_field_ref rfl rfl) rfl ?_
                  refine RO.opv (v' := .d (.list (encs _))) (opv_load_ref rfl rfl rfl) rfl ?_
                  refine RO.opv (v' := .d (.int _ _)) (opv_len_terms rfl) rfl ?_
                  refine RO.opv (v' := .d (.list (encCls _))) (opv_callF (get_fn (C 3) (newB (C 3) (ts ++ [more])).1 hlb (parseL (C 3) more).1.head.name ((parseL (C 3) more).1.head.kids.length : Int)) rfl rfl rfl trivial) rfl ?_
                  refine RO.opv (v' := .d (.list (encCls _))) (opv_assign rfl) rfl ?_
                  refine RO.nil ?_
                  refine Runs.has [(8, .d (.bool false)), (9, .d (.bool true)), (17, .d (.int _ _)), (18, .ref 2 0), (21, .d (.list (encCls _))), (22, .d (.list (encCls _))), (23, .d (.bool _)), (24, .d (.list (encCls _)))] ⟨rfl, rfl, rfl, rfl, rfl, rfl, rfl, rfl, trivial⟩ ?_
                  refine Runs.seq ?_
                  refine Runs.seq ?_
                  refine Runs.drawn (by kernel_rfl) [] [false, false, false, false, false, false, false, false, false, false, false, false, false, false, false, false, false, false] [false, false, false, false, false, false, false, false, false, false, false, false, false, false, false, false, false, false] (by decide +kernel) ?_
                  refine RD.opv (v' := .d (.list (encCls _))) (opv_move rfl) rfl ?_
                  refine RD.opv (v' := .d (.int _ _)) (opv_len_cls rfl) rfl ?_
                  refine RD.opv (v' := .d (.bool _)) (opv_bin rfl rfl rfl) rfl ?_
                  refine RD.opc (opv_move rfl) (fun h13 => ?_) (fun h13 => ?_)
                  · try simp only [decide_eq_true_eq, decide_eq_false_iff_not, beq_iff_eq, beq_eq_false_iff_ne, bne_iff_ne, bne_eq_false_iff_eq, Int.not_lt, Int.not_le, ne_eq, Bool.not_eq_true', Bool.not_eq_false', gt_iff_lt, ge_iff_le] at h13
                    omega
                  · try simp only [decide_eq_true_eq, decide_eq_false_iff_not, beq_iff_eq, beq_eq_false_iff_ne, bne_iff_ne, bne_eq_false_iff_eq, Int.not_lt, Int.not_le, ne_eq, Bool.not_eq_true', Bool.not_eq_false', gt_iff_lt, ge_iff_le] at h13
                    refine RD.opgv (v' := .d (.list (encCls _))) rfl (opv_move rfl) rfl ?_
                    refine RD.opgv (v' := .d (.list (encCls _))) rfl (opv_move rfl) rfl ?_
                    refine RD.opgv (v' := .d (.int _ _)) rfl (opv_len_cls rfl) rfl ?_
                    refine RD.opgv (v' := .d (.int _ _)) rfl (opv_arith (r := (((getB (allB (newB (C 3) (ts ++ [more])).1) (parseL (C 3) more).1.head.name ((parseL (C 3) more).1.head.kids.length : Int)).length - 1 : Nat) : Int)) rfl rfl (by simp only [binD, if_true]; rw [wrap64 (by omega) (by omega)]; congr 2; omega)) rfl ?_
                    refine RD.opgv (v' := .d (.ptr _)) rfl (opv_index_cls rfl rfl (by omega)) rfl ?_
                    refine RD.opgv (v' := .d (encCl _)) rfl (opv_load_pcl rfl) rfl ?_
                    refine RD.opgv (v' := .d (encCl _)) rfl (opv_load_cl rfl rfl) rfl ?_
                    refine RD.opgv (v' := .d (.bool _)) rfl (opv_callF (rone_fn ((getB (allB (newB (C 3) (ts ++ [more])).1) (parseL (C 3) more).1.head.name ((parseL (C 3) more).1.head.kids.length : Int))[(getB (allB (newB (C 3) (ts ++ [more])).1) (parseL (C 3) more).1.head.name ((parseL (C 3) more).1.head.kids.length : Int)).length - 1]'(by omega)) (parseL (C 3) more).1 (hsb _ (getB_sub (List.getElem_mem (by omega)))) ⟨Nat.le_trans hsc.1 (by omega), Nat.le_trans hsc.2 (by omega)⟩) rfl rfl rfl trivial) rfl ?_
                    refine RD.opgv (v' := .d (.bool _)) rfl (opv_not rfl rfl) rfl ?_
                    refine RD.opv (v' := .d (.bool _)) (opv_pick rfl rfl) rfl ?_
                    refine RD.opc (opv_move rfl) (fun h14 => ?_) (fun h14 => ?_)
                    · try simp only [decide_eq_true_eq, decide_eq_false_iff_not, beq_iff_eq, beq_eq_false_iff_ne, bne_iff_ne, bne_eq_false_iff_eq, Int.not_lt, Int.not_le, ne_eq, Bool.not_eq_true', Bool.not_eq_false', gt_iff_lt, ge_iff_le] at h14
                      rw [last_get hQ, (oneB_iff _ _).2 rfl] at h14; cases h14
                    · try simp only [decide_eq_true_eq, decide_eq_false_iff_not, beq_iff_eq, beq_eq_false_iff_ne, bne_iff_ne, bne_eq_false_iff_eq, Int.not_lt, Int.not_le, ne_eq, Bool.not_eq_true', Bool.not_eq_false', gt_iff_lt, ge_iff_le] at h14
                      refine RD.opgv (v' := .d (.int _ _)) rfl (opv_move rfl) rfl ?_
                      refine RD.opgv (v' := .d (.bool _)) rfl (opv_bin rfl rfl rfl) rfl ?_
                      refine RD.opc (opv_pick rfl rfl) (fun h15 => ?_) (fun h15 => ?_)
                      · try simp only [decide_eq_true_eq, decide_eq_false_iff_not, beq_iff_eq, beq_eq_false_iff_ne, bne_iff_ne, bne_eq_false_iff_eq, Int.not_lt, Int.not_le, ne_eq, Bool.not_eq_true', Bool.not_eq_false', gt_iff_lt, ge_iff_le] at h15
                        exact absurd hF0 h15
                      · try simp only [decide_eq_true_eq, decide_eq_false_iff_not, beq_iff_eq, beq_eq_false_iff_ne, bne_iff_ne, bne_eq_false_iff_eq, Int.not_lt, Int.not_le, ne_eq, Bool.not_eq_true', Bool.not_eq_false', gt_iff_lt, ge_iff_le] at h15
                        refine RD.nil ?_
                        refine thenQ_normal ?_
                        refine Runs.condF rfl ?_
                        refine Runs.skip ?_
                        refine thenQ_normal ?_
                        refine Runs.has [(8, .d (.bool false)), (9, .d (.bool true)), (21, .d (.list (encCls _))), (22, .d (.list (encCls _))), (23, .d (.bool _))] ⟨rfl, rfl, rfl, rfl, rfl, trivial⟩ ?_
                        refine Runs.rseq ?_
                        refine RO.opv (v' := .d (.bool true)) (opv_move rfl) rfl ?_
                        refine RO.opv (v' := .d (.bool true)) (opv_move rfl) rfl ?_
                        refine RO.opgv (v' := .d (.bool _)) rfl (opv_move rfl) rfl ?_
                        refine RO.opgc rfl (opv_move rfl) (fun h16 => ?_) (fun h16 => ?_)
                        · try simp only [decide_eq_true_eq, decide_eq_false_iff_not, beq_iff_eq, beq_eq_false_iff_ne, bne_iff_ne, bne_eq_false_iff_eq, Int.not_lt, Int.not_le, ne_eq, Bool.not_eq_true', Bool.not_eq_false', gt_iff_lt, ge_iff_le] at h16
                          have hq2 := h16
                          refine RO.opgv (v' := .d (.list (encCls _))) rfl (opv_move rfl) rfl ?_
                          refine RO.opgv (v' := .d (.int _ _)) rfl (opv_len_cls rfl) rfl ?_
                          refine RO.opgv (v' := .d (.list (encCls _))) rfl (opv_move rfl) rfl ?_
                          refine RO.opgv (v' := .d (.int _ _)) rfl (opv_len_cls rfl) rfl ?_
                          refine RO.opgv (v' := .d (.int _ _)) rfl (opv_arith (r := (((getB (allB (newB (C 3) ts).1) s x).length + 1 : Nat) : Int)) rfl rfl (by simp only [binD, if_true]; rw [wrap64 (by omega) (by omega)]; congr 2)) rfl ?_
                          refine RO.opgv (v' := .d (.bool _)) rfl (opv_bin rfl rfl rfl) rfl ?_
                          refine RO.opgv (v' := .d (.bool _)) rfl (opv_pick rfl rfl) rfl ?_
                          refine RO.opgc rfl (opv_move rfl) (fun h17 => ?_) (fun h17 => ?_)
                          · try simp only [decide_eq_true_eq, decide_eq_false_iff_not, beq_iff_eq, beq_eq_false_iff_ne, bne_iff_ne, bne_eq_false_iff_eq, Int.not_lt, Int.not_le, ne_eq, Bool.not_eq_true', Bool.not_eq_false', gt_iff_lt, ge_iff_le] at h17
                            refine RO.off rfl ?_
                            refine RO.off rfl ?_
                            refine RO.off rfl ?_
                            refine RO.off rfl ?_
                            refine RO.off rfl ?_
                            refine RO.off rfl ?_
                            refine RO.off rfl ?_
                            refine RO.opgv (v' := .d (.bool true)) rfl (opv_pick rfl rfl) rfl ?_
                            refine RO.opv (v' := .d (.bool true)) (opv_pick rfl rfl) rfl ?_
                            refine RO.opv (v' := .d (.bool true)) (opv_assign rfl) rfl ?_
                            refine RO.nil ?_
                            refine Runs.ret ?_
                            refine EndQ.tmp (.inr rfl) rfl rfl 0 (by exact Nat.le_refl _) (by exact Nat.zero_le _) trivial ⟨?_, rfl⟩
                            first
                              | rfl
                              | (exfalso; omega)
                              | (refine bool_eq ?_
                                 rcases hM with ⟨_, _, _⟩ | ⟨hx, hy⟩
                                 · exfalso; omega
                                 · simp [hy]; done)
                              | (refine bool_eq ?_
                                 rw [hKB, getB_more_no (by rw [Bool.eq_false_iff]; intro hh; exact hq1 (hasKey_iff.1 hh).1)]; exact sameCls_refl _)
                              | (refine bool_eq ?_
                                 rw [hKB, getB_more_no (by rw [Bool.eq_false_iff]; intro hh; exact hq2 (hasKey_iff.1 hh).2)]; exact sameCls_refl _)
                          · try simp only [decide_eq_true_eq, decide_eq_false_iff_not, beq_iff_eq, beq_eq_false_iff_ne, bne_iff_ne, bne_eq_false_iff_eq, Int.not_lt, Int.not_le, ne_eq, Bool.not_eq_true', Bool.not_eq_false', gt_iff_lt, ge_iff_le] at h17
                            exact absurd (by rw [hKB, getB_more_yes (hasKey_iff.2 ⟨hq1, by omega⟩)]; simp) h17
                        · try simp only [decide_eq_true_eq, decide_eq_false_iff_not, beq_iff_eq, beq_eq_false_iff_ne, bne_iff_ne, bne_eq_false_iff_eq, Int.not_lt, Int.not_le, ne_eq, Bool.not_eq_true', Bool.not_eq_false', gt_iff_lt, ge_iff_le] at h16
                          have hq2 := h16
                          refine RO.off rfl ?_
                          refine RO.off rfl ?_
                          refine RO.off rfl ?_
                          refine RO.off rfl ?_
                          refine RO.off rfl ?_
                          refine RO.off rfl ?_
                          refine RO.opgv (v' := .d (.bool false)) rfl (opv_pick rfl rfl) rfl ?_
                          refine RO.opgv (v' := .d (.bool false)) rfl (opv_move rfl) rfl ?_
                          refine RO.opgv (v' := .d (.bool _)) rfl (opv_move rfl) rfl ?_
                          refine RO.opgv (v' := .d (.bool _)) rfl (opv_not rfl rfl) rfl ?_
                          refine RO.opgc rfl (opv_move rfl) (fun h18 => ?_) (fun h18 => ?_)
                          · try simp only [decide_eq_true_eq, decide_eq_false_iff_not, beq_iff_eq, beq_eq_false_iff_ne, bne_iff_ne, bne_eq_false_iff_eq, Int.not_lt, Int.not_le, ne_eq, Bool.not_eq_true', Bool.not_eq_false', gt_iff_lt, ge_iff_le] at h18
                            refine RO.opgv (v' := .d (.list (encCls _))) rfl (opv_move rfl) rfl ?_
                            refine RO.opgv (v' := .d (.list (encCls _))) rfl (opv_move rfl) rfl ?_
                            refine RO.opgv (v' := .d (.bool _)) rfl (opv_callF (rcls_fn (getB (allB (newB (C 3) ts).1) s x) (getB (allB (newB (C 3) (ts ++ [more])).1) s x) (by omega) (fun c hc => hsa c (getB_sub hc)) (fun c hc => hsb c (getB_sub hc))) rfl rfl rfl trivial) rfl ?_
                            refine RO.opgv (v' := .d (.bool _)) rfl (opv_pick rfl rfl) rfl ?_
                            refine RO.opgv (v' := .d (.bool _)) rfl (opv_pick rfl rfl) rfl ?_
                            refine RO.opv (v' := .d (.bool _)) (opv_pick rfl rfl) rfl ?_
                            refine RO.opv (v' := .d (.bool _)) (opv_assign rfl) rfl ?_
                            refine RO.nil ?_
                            refine Runs.ret ?_
                            refine EndQ.tmp (.inr rfl) rfl rfl 0 (by exact Nat.le_refl _) (by exact Nat.zero_le _) trivial ⟨?_, rfl⟩
                            first
                              | rfl
                              | (exfalso; omega)
                              | (refine bool_eq ?_
                                 rcases hM with ⟨_, _, _⟩ | ⟨hx, hy⟩
                                 · exfalso; omega
                                 · simp [hy]; done)
                              | (refine bool_eq ?_
                                 rw [hKB, getB_more_no (by rw [Bool.eq_false_iff]; intro hh; exact hq1 (hasKey_iff.1 hh).1)]; exact sameCls_refl _)
                              | (refine bool_eq ?_
                                 rw [hKB, getB_more_no (by rw [Bool.eq_false_iff]; intro hh; exact hq2 (hasKey_iff.1 hh).2)]; exact sameCls_refl _)
                          · try simp only [decide_eq_true_eq, decide_eq_false_iff_not, beq_iff_eq, beq_eq_false_iff_ne, bne_iff_ne, bne_eq_false_iff_eq, Int.not_lt, Int.not_le, ne_eq, Bool.not_eq_true', Bool.not_eq_false', gt_iff_lt, ge_iff_le] at h18
                            refine RO.off rfl ?_
                            refine RO.off rfl ?_
                            refine RO.off rfl ?_
                            refine RO.opgv (v' := .d (.bool false)) rfl (opv_pick rfl rfl) rfl ?_
                            refine RO.opgv (v' := .d (.bool false)) rfl (opv_pick rfl rfl) rfl ?_
                            refine RO.opv (v' := .d (.bool false)) (opv_pick rfl rfl) rfl ?_
                            refine RO.opv (v' := .d (.bool false)) (opv_assign rfl) rfl ?_
                            refine RO.nil ?_
                            refine Runs.ret ?_
                            refine EndQ.tmp (.inr rfl) rfl rfl 0 (by exact Nat.le_refl _) (by exact Nat.zero_le _) trivial ⟨?_, rfl⟩
                            first
                              | rfl
                              | (exfalso; omega)
                              | (refine bool_eq ?_
                                 rcases hM with ⟨_, _, _⟩ | ⟨hx, hy⟩
                                 · exfalso; omega
                                 · simp [hy]; done)
                              | (refine bool_eq ?_
                                 rw [hKB, getB_more_no (by rw [Bool.eq_false_iff]; intro hh; exact hq1 (hasKey_iff.1 hh).1)]; exact sameCls_refl _)
                              | (refine bool_eq ?_
                                 rw [hKB, getB_more_no (by rw [Bool.eq_false_iff]; intro hh; exact hq2 (hasKey_iff.1 hh).2)]; exact sameCls_refl _)
                · try simp only [decide_eq_true_eq, decide_eq_false_iff_not, beq_iff_eq, beq_eq_false_iff_ne, bne_iff_ne, bne_eq_false_iff_eq, Int.not_lt, Int.not_le, ne_eq, Bool.not_eq_true', Bool.not_eq_false', gt_iff_lt, ge_iff_le] at h12
                  have hq1 := h12
                  refine RO.off rfl ?_
                  refine RO.off rfl ?_
                  refine RO.off rfl ?_
                  refine RO.off rfl ?_
                  refine RO.off rfl ?_
                  refine RO.off rfl ?_
                  refine RO.opv (v' := .d (.bool false)) (opv_pick rfl rfl) rfl ?_
                  refine RO.opv (v' := .d (.bool false)) (opv_assign rfl) rfl ?_
                  refine RO.nil ?_
                  refine Runs.has [(8, .d (.bool false)), (9, .d (.bool true)), (15, .d (encOB _ _)), (17, .d (.int _ _)), (18, .ref 2 0), (21, .d (.list (encCls _))), (22, .d (.list (encCls _))), (23, .d (.bool false))] ⟨rfl, rfl, rfl, rfl, rfl, rfl, rfl, rfl, trivial⟩ ?_
                  refine Runs.rseq ?_
                  refine RO.opv (v' := .d (encOB _ _)) (opv_move rfl) rfl ?_
                  refine RO.opv (v' := .ref 2 1) (opv_field_ref rfl rfl) rfl ?_
                  refine RO.opv (v' := .ref 2 3) (opv_field_ref rfl rfl) rfl ?_
                  refine RO.opv (v' := .d (.str _)) (opv_load_ref rfl rfl rfl) rfl ?_
                  refine RO.opv (v' := .ref 2 1) (opv_field_ref rfl rfl) rfl ?_
                  refine RO.opv (v' := .ref 2 4) (opv_field_ref rfl rfl) rfl ?_
                  refine RO.opv (v' := .d (.list (encs _))) (opv_load_ref rfl rfl rfl) rfl ?_
                  refine RO.opv (v' := .d (.int _ _)) (opv_len_terms rfl) rfl ?_
                  refine RO.opv (v' := .d (.list (encCls _))) (opv_callF (get_fn (C 3) (newB (C 3) (ts ++ [more])).1 hlb (parseL (C 3) more).1.head.name ((parseL (C 3) more).1.head.kids.length : Int)) rfl rfl rfl trivial) rfl ?_
                  refine RO.opv (v' := .d (.list (encCls _))) (opv_assign rfl) rfl ?_
                  refine RO.nil ?_
                  refine Runs.has [(8, .d (.bool false)), (9, .d (.bool true)), (17, .d (.int _ _)), (18, .ref 2 0), (21, .d (.list (encCls _))), (22, .d (.list (encCls _))), (23, .d (.bool false)), (24, .d (.list (encCls _)))] ⟨rfl, rfl, rfl, rfl, rfl, rfl, rfl, rfl, trivial⟩ ?_
                  refine Runs.seq ?_
                  refine Runs.seq ?_
                  refine Runs.drawn (by kernel_rfl) [] [false, false, false, false, false, false, false, false, false, false, false, false, false, false, false, false, false, false] [false, false, false, false, false, false, false, false, false, false, false, false, false, false, false, false, false, false] (by decide +kernel) ?_
                  refine RD.opv (v' := .d (.list (encCls _))) (opv_move rfl) rfl ?_
                  refine RD.opv (v' := .d (.int _ _)) (opv_len_cls rfl) rfl ?_
                  refine RD.opv (v' := .d (.bool _)) (opv_bin rfl rfl rfl) rfl ?_
                  refine RD.opc (opv_move rfl) (fun h19 => ?_) (fun h19 => ?_)
                  · try simp only [decide_eq_true_eq, decide_eq_false_iff_not, beq_iff_eq, beq_eq_false_iff_ne, bne_iff_ne, bne_eq_false_iff_eq, Int.not_lt, Int.not_le, ne_eq, Bool.not_eq_true', Bool.not_eq_false', gt_iff_lt, ge_iff_le] at h19
                    omega
                  · try simp only [decide_eq_true_eq, decide_eq_false_iff_not, beq_iff_eq, beq_eq_false_iff_ne, bne_iff_ne, bne_eq_false_iff_eq, Int.not_lt, Int.not_le, ne_eq, Bool.not_eq_true', Bool.not_eq_false', gt_iff_lt, ge_iff_le] at h19
                    refine RD.opgv (v' := .d (.list (encCls _))) rfl (opv_move rfl) rfl ?_
                    refine RD.opgv (v' := .d (.list (encCls _))) rfl (opv_move rfl) rfl ?_
                    refine RD.opgv (v' := .d (.int _ _)) rfl (opv_len_cls rfl) rfl ?_
                    refine RD.opgv (v' := .d (.int _ _)) rfl (opv_arith (r := (((getB (allB (newB (C 3) (ts ++ [more])).1) (parseL (C 3) more).1.head.name ((parseL (C 3) more).1.head.kids.length : Int)).length - 1 : Nat) : Int)) rfl rfl (by simp only [binD, if_true]; rw [wrap64 (by omega) (by omega)]; congr 2; omega)) rfl ?_
                    refine RD.opgv (v' := .d (.ptr _)) rfl (opv_index_cls rfl rfl (by omega)) rfl ?_
                    refine RD.opgv (v' := .d (encCl _)) rfl (opv_load_pcl rfl) rfl ?_
                    refine RD.opgv (v' := .d (encCl _)) rfl (opv_load_cl rfl rfl) rfl ?_
                    refine RD.opgv (v' := .d (.bool _)) rfl (opv_callF (rone_fn ((getB (allB (newB (C 3) (ts ++ [more])).1) (parseL (C 3) more).1.head.name ((parseL (C 3) more).1.head.kids.length : Int))[(getB (allB (newB (C 3) (ts ++ [more])).1) (parseL (C 3) more).1.head.name ((parseL (C 3) more).1.head.kids.length : Int)).length - 1]'(by omega)) (parseL (C 3) more).1 (hsb _ (getB_sub (List.getElem_mem (by omega)))) ⟨Nat.le_trans hsc.1 (by omega), Nat.le_trans hsc.2 (by omega)⟩) rfl rfl rfl trivial) rfl ?_
                    refine RD.opgv (v' := .d (.bool _)) rfl (opv_not rfl rfl) rfl ?_
                    refine RD.opv (v' := .d (.bool _)) (opv_pick rfl rfl) rfl ?_
                    refine RD.opc (opv_move rfl) (fun h20 => ?_) (fun h20 => ?_)
                    · try simp only [decide_eq_true_eq, decide_eq_false_iff_not, beq_iff_eq, beq_eq_false_iff_ne, bne_iff_ne, bne_eq_false_iff_eq, Int.not_lt, Int.not_le, ne_eq, Bool.not_eq_true', Bool.not_eq_false', gt_iff_lt, ge_iff_le] at h20
                      rw [last_get hQ, (oneB_iff _ _).2 rfl] at h20; cases h20
                    · try simp only [decide_eq_true_eq, decide_eq_false_iff_not, beq_iff_eq, beq_eq_false_iff_ne, bne_iff_ne, bne_eq_false_iff_eq, Int.not_lt, Int.not_le, ne_eq, Bool.not_eq_true', Bool.not_eq_false', gt_iff_lt, ge_iff_le] at h20
                      refine RD.opgv (v' := .d (.int _ _)) rfl (opv_move rfl) rfl ?_
                      refine RD.opgv (v' := .d (.bool _)) rfl (opv_bin rfl rfl rfl) rfl ?_
                      refine RD.opc (opv_pick rfl rfl) (fun h21 => ?_) (fun h21 => ?_)
                      · try simp only [decide_eq_true_eq, decide_eq_false_iff_not, beq_iff_eq, beq_eq_false_iff_ne, bne_iff_ne, bne_eq_false_iff_eq, Int.not_lt, Int.not_le, ne_eq, Bool.not_eq_true', Bool.not_eq_false', gt_iff_lt, ge_iff_le] at h21
                        exact absurd hF0 h21
                      · try simp only [decide_eq_true_eq, decide_eq_false_iff_not, beq_iff_eq, beq_eq_false_iff_ne, bne_iff_ne, bne_eq_false_iff_eq, Int.not_lt, Int.not_le, ne_eq, Bool.not_eq_true', Bool.not_eq_false', gt_iff_lt, ge_iff_le] at h21
                        refine RD.nil ?_
                        refine thenQ_normal ?_
                        refine Runs.condF rfl ?_
                        refine Runs.skip ?_
                        refine thenQ_normal ?_
                        refine Runs.has [(8, .d (.bool false)), (9, .d (.bool true)), (21, .d (.list (encCls _))), (22, .d (.list (encCls _))), (23, .d (.bool false))] ⟨rfl, rfl, rfl, rfl, rfl, trivial⟩ ?_
                        refine Runs.rseq ?_
                        refine RO.opv (v' := .d (.bool true)) (opv_move rfl) rfl ?_
                        refine RO.opv (v' := .d (.bool true)) (opv_move rfl) rfl ?_
                        refine RO.opgv (v' := .d (.bool false)) rfl (opv_move rfl) rfl ?_
                        refine RO.opgv (v' := .d (.bool false)) rfl (opv_move rfl) rfl ?_
                        refine RO.off rfl ?_
                        refine RO.off rfl ?_
                        refine RO.off rfl ?_
                        refine RO.off rfl ?_
                        refine RO.off rfl ?_
                        refine RO.off rfl ?_
                        refine RO.opgv (v' := .d (.bool false)) rfl (opv_pick rfl rfl) rfl ?_
                        refine RO.opgv (v' := .d (.bool false)) rfl (opv_move rfl) rfl ?_
                        refine RO.opgv (v' := .d (.bool false)) rfl (opv_move rfl) rfl ?_
                        refine RO.opgv (v' := .d (.bool true)) rfl (opv_not rfl rfl) rfl ?_
                        refine RO.opgv (v' := .d (.bool true)) rfl (opv_move rfl) rfl ?_
                        refine RO.opgv (v' := .d (.list (encCls _))) rfl (opv_move rfl) rfl ?_
                        refine RO.opgv (v' := .d (.list (encCls _))) rfl (opv_move rfl) rfl ?_
                        refine RO.opgv (v' := .d (.bool _)) rfl (opv_callF (rcls_fn (getB (allB (newB (C 3) ts).1) s x) (getB (allB (newB (C 3) (ts ++ [more])).1) s x) (by omega) (fun c hc => hsa c (getB_sub hc)) (fun c hc => hsb c (getB_sub hc))) rfl rfl rfl trivial) rfl ?_
                        refine RO.opgv (v' := .d (.bool _)) rfl (opv_pick rfl rfl) rfl ?_
                        refine RO.opgv (v' := .d (.bool _)) rfl (opv_pick rfl rfl) rfl ?_
                        refine RO.opv (v' := .d (.bool _)) (opv_pick rfl rfl) rfl ?_
                        refine RO.opv (v' := .d (.bool _)) (opv_assign rfl) rfl ?_
                        refine RO.nil ?_
                        refine Runs.ret ?_
                        refine EndQ.tmp (.inr rfl) rfl rfl 0 (by exact Nat.le_refl _) (by exact Nat.zero_le _) trivial ⟨?_, rfl⟩
                        first
                          | rfl
                          | (exfalso; omega)
                          | (refine bool_eq ?_
                             rcases hM with ⟨_, _, _⟩ | ⟨hx, hy⟩
                             · exfalso; omega
                             · simp [hy]; done)
                          | (refine bool_eq ?_
                             rw [hKB, getB_more_no (by rw [Bool.eq_false_iff]; intro hh; exact hq1 (hasKey_iff.1 hh).1)]; exact sameCls_refl _)
                          | (refine bool_eq ?_
                             rw [hKB, getB_more_no (by rw [Bool.eq_false_iff]; intro hh; exact hq2 (hasKey_iff.1 hh).2)]; exact sameCls_refl _)
end Go.Proofs.Ytmokkjmoneablaa.AM
