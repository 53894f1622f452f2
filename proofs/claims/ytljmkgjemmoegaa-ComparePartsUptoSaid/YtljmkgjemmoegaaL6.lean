import Derived.Test.YtljmkgjemmoegaaL0
namespace Go.Proofs.Ytljmkgjemmoegaa.AM
open Go
set_option linter.unusedVariables false
set_option linter.unusedSimpArgs false
theorem holeK_get {ks : List Term} (h : 0 < ks.length) : holeK ks = same ks[0] (.node 3 0 hole []) := by
  match ks, h with
  | y :: _, _ => rfl
theorem oh_aux (k : Nat) (hk : k < 16) (x : Int) : ∀ (m : Nat) (t : Term), t.size ≤ m → t.bulk ≤ 2 ^ 30 → t.parts.all (alone ((k + 1 : Nat) : Int)) = true → Fn Try.prog 32 [.d (encL (C k)), .d (enc t), .d (.int .i64 x)] [] (.d (.bool (t.oh (C k) x))) [] := by
  intro m
  induction m with
  | zero => intro t h; have := t.size_kids; omega
  | succ m ih =>
  intro t hm hb ha
  have hS := t.size_kids
  have hU := t.bulk_kids
  have hL := bulks_len t.kids
  have hself : alone ((k + 1 : Nat) : Int) t = true := by rw [t.parts_kids, List.all_cons, Bool.and_eq_true] at ha; exact ha.1
  refine Does.run Try.func32 rfl Try.ntmps32 rfl fun K hK => ?_
  refine Runs.rseq ?_
  refine RO.opn (v' := .ref 0 0) (O' := [_]) (opv_box_term rfl) rfl rfl ?_
  refine RO.opv (v' := .d (.bool false)) (opv_assign rfl) rfl ?_
  refine RO.nil ?_
  refine Runs.has [(0, .d (encL _)), (2, .d (.int _ _)), (4, .ref 0 0), (6, .d (.bool false))] ⟨rfl, rfl, rfl, rfl, trivial⟩ ?_
  refine Runs.seq ?_
  refine Runs.rseq ?_
  refine RO.opv (v' := .ref 0 0) (opv_field_ref rfl rfl) rfl ?_
  refine RO.opv (v' := .d (.int _ _)) (opv_load_ref rfl rfl rfl) rfl ?_
  refine RO.opv (v' := .d (.bool _)) (opv_bin rfl rfl rfl) rfl ?_
  refine RO.opc (opv_move rfl) (fun h1 => ?_) (fun h1 => ?_)
  · try simp only [decide_eq_true_eq, decide_eq_false_iff_not, beq_iff_eq, beq_eq_false_iff_ne, bne_iff_ne, bne_eq_false_iff_eq, Int.not_lt, Int.not_le, ne_eq, Bool.not_eq_true', Bool.not_eq_false', gt_iff_lt, ge_iff_le] at h1
    have hk4 : t.kind = 4 := h1
    have hk0 : 0 < t.kids.length := by
      rcases alone_cases hself with ⟨c, _⟩ | ⟨c, _⟩ | ⟨c, _⟩ | ⟨_, _, _, _, y, h6, _⟩
      · omega
      · omega
      · omega
      · rw [h6]; exact Nat.zero_lt_one
    refine RO.opgv (v' := .d (encL _)) rfl (opv_move rfl) rfl ?_
    refine RO.opgv (v' := .ref 0 1) rfl (opv_field_ref rfl rfl) rfl ?_
    refine RO.opgv (v' := .d (.int _ _)) rfl (opv_load_ref rfl rfl rfl) rfl ?_
    refine RO.opgv (v' := .d (.int _ _)) rfl (opv_move rfl) rfl ?_
    refine RO.opgv (v' := .d (.bool _)) rfl (opv_callF (leq_fn (C k) (C_ok hk) _ _) rfl rfl rfl trivial) rfl ?_
    refine RO.opgv (v' := .d (.bool _)) rfl (opv_not rfl rfl) rfl ?_
    refine RO.opc (opv_pick rfl rfl) (fun h2 => ?_) (fun h2 => ?_)
    · try simp only [decide_eq_true_eq, decide_eq_false_iff_not, beq_iff_eq, beq_eq_false_iff_ne, bne_iff_ne, bne_eq_false_iff_eq, Int.not_lt, Int.not_le, ne_eq, Bool.not_eq_true', Bool.not_eq_false', gt_iff_lt, ge_iff_le] at h2
      have hq := h2
      refine RO.nil ?_
      refine Runs.condT rfl ?_
      refine Runs.has [(0, .d (encL _)), (2, .d (.int _ _)), (4, .ref 0 0), (6, .d (.bool false))] ⟨rfl, rfl, rfl, rfl, trivial⟩ ?_
      refine Runs.seq ?_
      refine Runs.drawn (by kernel_rfl) [] [false, false, false, false, false, false, false, false, false, false, false, false, false, false] [false, false, false, false, false, false, false, false, false, false, false, false, false, false] (by decide +kernel) ?_
      refine RD.opv (v' := .ref 0 1) (opv_field_ref rfl rfl) rfl ?_
      refine RD.opv (v' := .d (.int _ _)) (opv_load_ref rfl rfl rfl) rfl ?_
      refine RD.opv (v' := .d (encL _)) (opv_move rfl) rfl ?_
      refine RD.opv (v' := .d (.int _ _)) (opv_callF (ltop_fn (C k) (C_ok hk)) rfl rfl rfl trivial) rfl ?_
      refine RD.opv (v' := .d (.bool _)) (opv_bin rfl rfl rfl) rfl ?_
      refine RD.opc (opv_move rfl) (fun h3 => ?_) (fun h3 => ?_)
      · try simp only [decide_eq_true_eq, decide_eq_false_iff_not, beq_iff_eq, beq_eq_false_iff_ne, bne_iff_ne, bne_eq_false_iff_eq, Int.not_lt, Int.not_le, ne_eq, Bool.not_eq_true', Bool.not_eq_false', gt_iff_lt, ge_iff_le] at h3
        have htp := h3
        refine RD.opgv (v' := .ref 0 3) rfl (opv_field_ref rfl rfl) rfl ?_
        refine RD.opgv (v' := .d (.list (encs _))) rfl (opv_load_ref rfl rfl rfl) rfl ?_
        refine RD.opgv (v' := .d (.ptr _)) rfl (opv_index_terms (i := 0) rfl rfl hk0) rfl ?_
        refine RD.opgv (v' := .d (enc _)) rfl (opv_load_pterm rfl) rfl ?_
        refine RD.opgv (v' := .d (enc _)) rfl (opv_callF (atom_fn hole) rfl rfl rfl trivial) rfl ?_
        refine RD.opgv (v' := .d (.bool _)) rfl (opv_callF (same_fn t.kids[0] (.node 3 0 hole []) (by have := bulks_mem (List.getElem_mem hk0); omega) (Nat.le_of_ble_eq_true (by decide +kernel))) rfl rfl rfl trivial) rfl ?_
        refine RD.opv (v' := .d (.bool _)) (opv_pick rfl rfl) rfl ?_
        refine RD.opv (v' := .d (.bool _)) (opv_assign rfl) rfl ?_
        refine RD.nil ?_
        refine thenQ_normal ?_
        refine Runs.ret ?_
        refine thenQ_ret ?_
        refine EndQ.tmp (.inr rfl) rfl rfl 0 (by exact Nat.le_refl _) (by exact Nat.zero_le _) trivial ⟨?_, rfl⟩
        refine bool_eq ?_; rw [oh_eq, if_pos ⟨hk4, hq⟩, holeK_get hk0, htp]; simp
      · try simp only [decide_eq_true_eq, decide_eq_false_iff_not, beq_iff_eq, beq_eq_false_iff_ne, bne_iff_ne, bne_eq_false_iff_eq, Int.not_lt, Int.not_le, ne_eq, Bool.not_eq_true', Bool.not_eq_false', gt_iff_lt, ge_iff_le] at h3
        have htp := h3
        refine RD.off rfl ?_
        refine RD.off rfl ?_
        refine RD.off rfl ?_
        refine RD.off rfl ?_
        refine RD.off rfl ?_
        refine RD.off rfl ?_
        refine RD.opv (v' := .d (.bool false)) (opv_pick rfl rfl) rfl ?_
        refine RD.opv (v' := .d (.bool false)) (opv_assign rfl) rfl ?_
        refine RD.nil ?_
        refine thenQ_normal ?_
        refine Runs.ret ?_
        refine thenQ_ret ?_
        refine EndQ.tmp (.inr rfl) rfl rfl 0 (by exact Nat.le_refl _) (by exact Nat.zero_le _) trivial ⟨?_, rfl⟩
        refine bool_eq ?_; rw [oh_eq, if_pos ⟨hk4, hq⟩]; simp [htp]
    · try simp only [decide_eq_true_eq, decide_eq_false_iff_not, beq_iff_eq, beq_eq_false_iff_ne, bne_iff_ne, bne_eq_false_iff_eq, Int.not_lt, Int.not_le, ne_eq, Bool.not_eq_true', Bool.not_eq_false', gt_iff_lt, ge_iff_le] at h2
      have hq := h2
      refine RO.nil ?_
      refine Runs.condF rfl ?_
      refine Runs.skip ?_
      refine thenQ_normal ?_
      refine Runs.has [(0, .d (encL _)), (2, .d (.int _ _)), (4, .ref 0 0), (6, .d (.bool false))] ⟨rfl, rfl, rfl, rfl, trivial⟩ ?_
      refine Runs.seq ?_
      refine Runs.rseq ?_
      refine RO.opv (v' := .d (.int _ _)) (opv_assign rfl) rfl ?_
      refine RO.nil ?_
      refine Runs.block ?_
      refine Runs.loopC (X := Nat) (fun i => i ≤ t.kids.length ∧ ohs (C k) x t.kids = ohs (C k) x (t.kids.drop i)) (fun i => t.kids.length - i) [(0, .d (encL _)), (2, .d (.int _ _)), (4, .ref 0 0)] (fun i => [(7, .d (.int .i64 (i : Nat)))]) [_] (fun i => []) (0) ⟨rfl, rfl, rfl, trivial⟩ ⟨rfl, trivial⟩ rfl ⟨Nat.zero_le _, rfl⟩ fun i hi => ?_
      refine Runs.seq ?_
      refine Runs.rseq ?_
      refine RO.opv (v' := .d (.int _ _)) (opv_move rfl) rfl ?_
      refine RO.opv (v' := .ref 0 3) (opv_field_ref rfl rfl) rfl ?_
      refine RO.opv (v' := .d (.list (encs _))) (opv_load_ref rfl rfl rfl) rfl ?_
      refine RO.opv (v' := .d (.int _ _)) (opv_len_terms rfl) rfl ?_
      refine RO.opc (opv_bin rfl rfl rfl) (fun h4 => ?_) (fun h4 => ?_)
      · try simp only [decide_eq_true_eq, decide_eq_false_iff_not, beq_iff_eq, beq_eq_false_iff_ne, bne_iff_ne, bne_eq_false_iff_eq, Int.not_lt, Int.not_le, ne_eq, Bool.not_eq_true', Bool.not_eq_false', gt_iff_lt, ge_iff_le] at h4
        have hi2 : i < t.kids.length := by omega
        refine RO.nil ?_
        refine Runs.condT rfl ?_
        refine Runs.skip ?_
        refine thenQ_normal ?_
        refine Runs.has [(0, .d (encL _)), (2, .d (.int _ _)), (4, .ref 0 0), (7, .d (.int _ _))] ⟨rfl, rfl, rfl, rfl, trivial⟩ ?_
        refine Runs.seq ?_
        refine Runs.block ?_
        refine Runs.rseq ?_
        refine RO.opv (v' := .d (encL _)) (opv_move rfl) rfl ?_
        refine RO.opv (v' := .ref 0 3) (opv_field_ref rfl rfl) rfl ?_
        refine RO.opv (v' := .d (.list (encs _))) (opv_load_ref rfl rfl rfl) rfl ?_
        refine RO.opv (v' := .d (.int _ _)) (opv_move rfl) rfl ?_
        refine RO.opv (v' := .d (.ptr _)) (opv_index_terms rfl rfl hi2) rfl ?_
        refine RO.opv (v' := .d (enc _)) (opv_load_pterm rfl) rfl ?_
        refine RO.opv (v' := .d (.int _ _)) (opv_move rfl) rfl ?_
        refine RO.opv (v' := .d (.bool _)) (opv_callF (ih t.kids[i] (by have := sizes_mem (List.getElem_mem hi2); omega) (by have := bulks_mem (List.getElem_mem hi2); omega) (by rw [List.all_eq_true] at ha ⊢; exact fun p hp => ha p (by rw [t.parts_kids]; exact List.mem_cons_of_mem _ (partss_mem (List.getElem_mem hi2) hp)))) rfl rfl rfl trivial) rfl ?_
        refine RO.opc (opv_not rfl rfl) (fun h5 => ?_) (fun h5 => ?_)
        · try simp only [decide_eq_true_eq, decide_eq_false_iff_not, beq_iff_eq, beq_eq_false_iff_ne, bne_iff_ne, bne_eq_false_iff_eq, Int.not_lt, Int.not_le, ne_eq, Bool.not_eq_true', Bool.not_eq_false', gt_iff_lt, ge_iff_le] at h5
          have ho := h5
          refine RO.nil ?_
          refine Runs.condT rfl ?_
          refine Runs.has [(0, .d (encL _)), (2, .d (.int _ _)), (4, .ref 0 0), (7, .d (.int _ _))] ⟨rfl, rfl, rfl, rfl, trivial⟩ ?_
          refine Runs.rseq ?_
          refine RO.opv (v' := .d (.bool false)) (opv_assign rfl) rfl ?_
          refine RO.nil ?_
          refine Runs.ret ?_
          refine blockQ_ret ?_
          refine thenQ_ret ?_
          refine thenQ_ret ?_
          refine blockQ_ret ?_
          refine thenQ_ret ?_
          refine EndQ.tmp (.inr rfl) rfl rfl 0 (by exact Nat.le_refl _) (by exact Nat.zero_le _) trivial ⟨?_, rfl⟩
          refine bool_eq ?_; rw [oh_eq, if_neg (by simp [*]), hi.2, ohs_take hi2, ho]; rfl
        · try simp only [decide_eq_true_eq, decide_eq_false_iff_not, beq_iff_eq, beq_eq_false_iff_ne, bne_iff_ne, bne_eq_false_iff_eq, Int.not_lt, Int.not_le, ne_eq, Bool.not_eq_true', Bool.not_eq_false', gt_iff_lt, ge_iff_le] at h5
          have ho := h5
          refine RO.nil ?_
          refine Runs.condF rfl ?_
          refine Runs.skip ?_
          refine blockQ_normal ?_
          refine thenQ_normal ?_
          refine Runs.has [(0, .d (encL _)), (2, .d (.int _ _)), (4, .ref 0 0), (7, .d (.int _ _))] ⟨rfl, rfl, rfl, rfl, trivial⟩ ?_
          refine Runs.region ?_
          refine RO.opv (v' := .d (.int _ _)) (opv_move rfl) rfl ?_
          refine RO.opv (v' := .d (.int _ _)) (opv_bin rfl rfl rfl) rfl ?_
          refine RO.opv (v' := .d (.int _ _)) (opv_assign rfl) rfl ?_
          refine RO.nil ?_
          refine thenQ_normal ?_
          refine ⟨i + 1, 1, (by rw [hK]; exact Nat.le_of_ble_eq_true rfl), ⟨rfl, rfl, rfl, trivial⟩, ⟨?_, trivial⟩, rfl, ?_, ?_⟩
          · refine int_eq ?_; rw [wrap64 (by omega) (by omega)]; omega
          · refine ⟨by omega, ?_⟩
            rw [hi.2, ohs_take hi2, ho, Bool.true_and]
          · omega
      · try simp only [decide_eq_true_eq, decide_eq_false_iff_not, beq_iff_eq, beq_eq_false_iff_ne, bne_iff_ne, bne_eq_false_iff_eq, Int.not_lt, Int.not_le, ne_eq, Bool.not_eq_true', Bool.not_eq_false', gt_iff_lt, ge_iff_le] at h4
        have hi2 : i = t.kids.length := by omega
        refine RO.nil ?_
        refine Runs.condF rfl ?_
        refine Runs.exit ?_
        refine thenQ_exit ?_
        refine thenQ_exit ?_
        refine blockQ_here ?_
        refine thenQ_normal ?_
        refine Runs.has [] trivial ?_
        refine Runs.rseq ?_
        refine RO.opv (v' := .d (.bool true)) (opv_assign rfl) rfl ?_
        refine RO.nil ?_
        refine Runs.ret ?_
        refine EndQ.tmp (.inr rfl) rfl rfl 0 (by exact Nat.le_refl _) (by exact Nat.zero_le _) trivial ⟨?_, rfl⟩
        refine bool_eq ?_; rw [oh_eq, if_neg (by simp [*]), hi.2, hi2, List.drop_length]; rfl
  · try simp only [decide_eq_true_eq, decide_eq_false_iff_not, beq_iff_eq, beq_eq_false_iff_ne, bne_iff_ne, bne_eq_false_iff_eq, Int.not_lt, Int.not_le, ne_eq, Bool.not_eq_true', Bool.not_eq_false', gt_iff_lt, ge_iff_le] at h1
    have hk4 : ¬ t.kind = 4 := h1
    refine RO.off rfl ?_
    refine RO.off rfl ?_
    refine RO.off rfl ?_
    refine RO.off rfl ?_
    refine RO.off rfl ?_
    refine RO.off rfl ?_
    refine RO.opv (v' := .d (.bool false)) (opv_pick rfl rfl) rfl ?_
    refine RO.nil ?_
    refine Runs.condF rfl ?_
    refine Runs.skip ?_
    refine thenQ_normal ?_
    refine Runs.has [(0, .d (encL _)), (2, .d (.int _ _)), (4, .ref 0 0), (6, .d (.bool false))] ⟨rfl, rfl, rfl, rfl, trivial⟩ ?_
    refine Runs.seq ?_
    refine Runs.rseq ?_
    refine RO.opv (v' := .d (.int _ _)) (opv_assign rfl) rfl ?_
    refine RO.nil ?_
    refine Runs.block ?_
    refine Runs.loopC (X := Nat) (fun i => i ≤ t.kids.length ∧ ohs (C k) x t.kids = ohs (C k) x (t.kids.drop i)) (fun i => t.kids.length - i) [(0, .d (encL _)), (2, .d (.int _ _)), (4, .ref 0 0)] (fun i => [(7, .d (.int .i64 (i : Nat)))]) [_] (fun i => []) (0) ⟨rfl, rfl, rfl, trivial⟩ ⟨rfl, trivial⟩ rfl ⟨Nat.zero_le _, rfl⟩ fun i hi => ?_
    refine Runs.seq ?_
    refine Runs.rseq ?_
    refine RO.opv (v' := .d (.int _ _)) (opv_move rfl) rfl ?_
    refine RO.opv (v' := .ref 0 3) (opv_field_ref rfl rfl) rfl ?_
    refine RO.opv (v' := .d (.list (encs _))) (opv_load_ref rfl rfl rfl) rfl ?_
    refine RO.opv (v' := .d (.int _ _)) (opv_len_terms rfl) rfl ?_
    refine RO.opc (opv_bin rfl rfl rfl) (fun h6 => ?_) (fun h6 => ?_)
    · try simp only [decide_eq_true_eq, decide_eq_false_iff_not, beq_iff_eq, beq_eq_false_iff_ne, bne_iff_ne, bne_eq_false_iff_eq, Int.not_lt, Int.not_le, ne_eq, Bool.not_eq_true', Bool.not_eq_false', gt_iff_lt, ge_iff_le] at h6
      have hi2 : i < t.kids.length := by omega
      refine RO.nil ?_
      refine Runs.condT rfl ?_
      refine Runs.skip ?_
      refine thenQ_normal ?_
      refine Runs.has [(0, .d (encL _)), (2, .d (.int _ _)), (4, .ref 0 0), (7, .d (.int _ _))] ⟨rfl, rfl, rfl, rfl, trivial⟩ ?_
      refine Runs.seq ?_
      refine Runs.block ?_
      refine Runs.rseq ?_
      refine RO.opv (v' := .d (encL _)) (opv_move rfl) rfl ?_
      refine RO.opv (v' := .ref 0 3) (opv_field_ref rfl rfl) rfl ?_
      refine RO.opv (v' := .d (.list (encs _))) (opv_load_ref rfl rfl rfl) rfl ?_
      refine RO.opv (v' := .d (.int _ _)) (opv_move rfl) rfl ?_
      refine RO.opv (v' := .d (.ptr _)) (opv_index_terms rfl rfl hi2) rfl ?_
      refine RO.opv (v' := .d (enc _)) (opv_load_pterm rfl) rfl ?_
      refine RO.opv (v' := .d (.int _ _)) (opv_move rfl) rfl ?_
      refine RO.opv (v' := .d (.bool _)) (opv_callF (ih t.kids[i] (by have := sizes_mem (List.getElem_mem hi2); omega) (by have := bulks_mem (List.getElem_mem hi2); omega) (by rw [List.all_eq_true] at ha ⊢; exact fun p hp => ha p (by rw [t.parts_kids]; exact List.mem_cons_of_mem _ (partss_mem (List.getElem_mem hi2) hp)))) rfl rfl rfl trivial) rfl ?_
      refine RO.opc (opv_not rfl rfl) (fun h7 => ?_) (fun h7 => ?_)
      · try simp only [decide_eq_true_eq, decide_eq_false_iff_not, beq_iff_eq, beq_eq_false_iff_ne, bne_iff_ne, bne_eq_false_iff_eq, Int.not_lt, Int.not_le, ne_eq, Bool.not_eq_true', Bool.not_eq_false', gt_iff_lt, ge_iff_le] at h7
        have ho := h7
        refine RO.nil ?_
        refine Runs.condT rfl ?_
        refine Runs.has [(0, .d (encL _)), (2, .d (.int _ _)), (4, .ref 0 0), (7, .d (.int _ _))] ⟨rfl, rfl, rfl, rfl, trivial⟩ ?_
        refine Runs.rseq ?_
        refine RO.opv (v' := .d (.bool false)) (opv_assign rfl) rfl ?_
        refine RO.nil ?_
        refine Runs.ret ?_
        refine blockQ_ret ?_
        refine thenQ_ret ?_
        refine thenQ_ret ?_
        refine blockQ_ret ?_
        refine thenQ_ret ?_
        refine EndQ.tmp (.inr rfl) rfl rfl 0 (by exact Nat.le_refl _) (by exact Nat.zero_le _) trivial ⟨?_, rfl⟩
        refine bool_eq ?_; rw [oh_eq, if_neg (by simp [*]), hi.2, ohs_take hi2, ho]; rfl
      · try simp only [decide_eq_true_eq, decide_eq_false_iff_not, beq_iff_eq, beq_eq_false_iff_ne, bne_iff_ne, bne_eq_false_iff_eq, Int.not_lt, Int.not_le, ne_eq, Bool.not_eq_true', Bool.not_eq_false', gt_iff_lt, ge_iff_le] at h7
        have ho := h7
        refine RO.nil ?_
        refine Runs.condF rfl ?_
        refine Runs.skip ?_
        refine blockQ_normal ?_
        refine thenQ_normal ?_
        refine Runs.has [(0, .d (encL _)), (2, .d (.int _ _)), (4, .ref 0 0), (7, .d (.int _ _))] ⟨rfl, rfl, rfl, rfl, trivial⟩ ?_
        refine Runs.region ?_
        refine RO.opv (v' := .d (.int _ _)) (opv_move rfl) rfl ?_
        refine RO.opv (v' := .d (.int _ _)) (opv_bin rfl rfl rfl) rfl ?_
        refine RO.opv (v' := .d (.int _ _)) (opv_assign rfl) rfl ?_
        refine RO.nil ?_
        refine thenQ_normal ?_
        refine ⟨i + 1, 1, (by rw [hK]; exact Nat.le_of_ble_eq_true rfl), ⟨rfl, rfl, rfl, trivial⟩, ⟨?_, trivial⟩, rfl, ?_, ?_⟩
        · refine int_eq ?_; rw [wrap64 (by omega) (by omega)]; omega
        · refine ⟨by omega, ?_⟩
          rw [hi.2, ohs_take hi2, ho, Bool.true_and]
        · omega
    · try simp only [decide_eq_true_eq, decide_eq_false_iff_not, beq_iff_eq, beq_eq_false_iff_ne, bne_iff_ne, bne_eq_false_iff_eq, Int.not_lt, Int.not_le, ne_eq, Bool.not_eq_true', Bool.not_eq_false', gt_iff_lt, ge_iff_le] at h6
      have hi2 : i = t.kids.length := by omega
      refine RO.nil ?_
      refine Runs.condF rfl ?_
      refine Runs.exit ?_
      refine thenQ_exit ?_
      refine thenQ_exit ?_
      refine blockQ_here ?_
      refine thenQ_normal ?_
      refine Runs.has [] trivial ?_
      refine Runs.rseq ?_
      refine RO.opv (v' := .d (.bool true)) (opv_assign rfl) rfl ?_
      refine RO.nil ?_
      refine Runs.ret ?_
      refine EndQ.tmp (.inr rfl) rfl rfl 0 (by exact Nat.le_refl _) (by exact Nat.zero_le _) trivial ⟨?_, rfl⟩
      refine bool_eq ?_; rw [oh_eq, if_neg (by simp [*]), hi.2, hi2, List.drop_length]; rfl
end Go.Proofs.Ytljmkgjemmoegaa.AM
