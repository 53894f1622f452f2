import Derived.Test.YtondfedhffjokaaTm
namespace Go.Proofs.Ytondfedhffjokaa.AM
open Go
set_option linter.unusedVariables false
set_option linter.unusedSimpArgs false
theorem rsize_aux  : ∀ (m : Nat) (t : Term), t.size ≤ m → t.bulk ≤ 2 ^ 30 → Fn Try.prog 25 [.d (enc t)] [] (.d (.int .i64 (t.size : Nat))) [] := by
  intro m
  induction m with
  | zero => intro t h; have := t.size_kids; omega
  | succ m ih =>
  intro t hm hb
  have hS := t.size_kids
  have hU := t.bulk_kids
  have hL := bulks_len t.kids
  have hY := sizes_bulks t.kids
  refine Does.run Try.func25 rfl Try.ntmps25 rfl fun K hK => ?_
  refine Runs.rseq ?_
  refine RO.opn (v' := .ref 0 0) (O' := [_]) (opv_box_term rfl) rfl rfl ?_
  refine RO.opv (v' := .d (.int _ _)) (opv_assign rfl) rfl ?_
  refine RO.nil ?_
  refine Runs.has [(1, .ref 0 0), (2, .d (.int _ _))] ⟨rfl, rfl, trivial⟩ ?_
  refine Runs.rseq ?_
  refine RO.opv (v' := .d (.int _ _)) (opv_assign rfl) rfl ?_
  refine RO.nil ?_
  refine Runs.seq ?_
  refine Runs.rseq ?_
  refine RO.opv (v' := .d (.int _ _)) (opv_assign rfl) rfl ?_
  refine RO.nil ?_
  refine Runs.block ?_
  refine Runs.loopC (X := Nat) (fun i => i ≤ t.kids.length) (fun i => t.kids.length - i) [(1, .ref 0 0), (2, .d (.int _ _))] (fun i => [(3, .d (.int .i64 ((1 + sizes (t.kids.take i) : Nat) : Int))), (4, .d (.int .i64 (i : Nat)))]) [_] (fun i => []) (0) ⟨rfl, rfl, trivial⟩ ⟨rfl, rfl, trivial⟩ rfl (by omega) fun i hi => ?_
  refine Runs.seq ?_
  refine Runs.rseq ?_
  refine RO.opv (v' := .d (.int _ _)) (opv_move rfl) rfl ?_
  refine RO.opv (v' := .ref 0 3) (opv_field_ref rfl rfl) rfl ?_
  refine RO.opv (v' := .d (.list (encs _))) (opv_load_ref rfl rfl rfl) rfl ?_
  refine RO.opv (v' := .d (.int _ _)) (opv_len_terms rfl) rfl ?_
  refine RO.opc (opv_bin rfl rfl rfl) (fun h1 => ?_) (fun h1 => ?_)
  · try simp only [decide_eq_true_eq, decide_eq_false_iff_not, beq_iff_eq, beq_eq_false_iff_ne, bne_iff_ne, bne_eq_false_iff_eq, Int.not_lt, Int.not_le, ne_eq, Bool.not_eq_true', Bool.not_eq_false', gt_iff_lt, ge_iff_le] at h1
    have h1 : i < t.kids.length := by omega
    refine RO.nil ?_
    refine Runs.condT rfl ?_
    refine Runs.skip ?_
    refine thenQ_normal ?_
    refine Runs.has [(1, .ref 0 0), (2, .d (.int _ _)), (3, .d (.int _ _)), (4, .d (.int _ _))] ⟨rfl, rfl, rfl, rfl, trivial⟩ ?_
    refine Runs.seq ?_
    refine Runs.block ?_
    refine Runs.region ?_
    refine RO.opv (v' := .d (.int _ _)) (opv_move rfl) rfl ?_
    refine RO.opv (v' := .ref 0 3) (opv_field_ref rfl rfl) rfl ?_
    refine RO.opv (v' := .d (.list (encs _))) (opv_load_ref rfl rfl rfl) rfl ?_
    refine RO.opv (v' := .d (.int _ _)) (opv_move rfl) rfl ?_
    refine RO.opv (v' := .d (.ptr _)) (opv_index_terms rfl rfl (by omega)) rfl ?_
    refine RO.opv (v' := .d (enc _)) (opv_load_pterm rfl) rfl ?_
    refine RO.opv (v' := .d (.int _ _)) (opv_callF (ih t.kids[i] (by have := sizes_mem (List.getElem_mem h1); omega) (by have := bulks_mem (List.getElem_mem h1); omega)) rfl rfl rfl trivial) rfl ?_
    refine RO.opv (v' := .d (.int _ _)) (opv_bin rfl rfl rfl) rfl ?_
    refine RO.opv (v' := .d (.int _ _)) (opv_assign rfl) rfl ?_
    refine RO.nil ?_
    refine blockQ_normal ?_
    refine thenQ_normal ?_
    refine Runs.has [(1, .ref 0 0), (2, .d (.int _ _)), (3, .d (.int _ _)), (4, .d (.int _ _))] ⟨rfl, rfl, rfl, rfl, trivial⟩ ?_
    refine Runs.region ?_
    refine RO.opv (v' := .d (.int _ _)) (opv_move rfl) rfl ?_
    refine RO.opv (v' := .d (.int _ _)) (opv_bin rfl rfl rfl) rfl ?_
    refine RO.opv (v' := .d (.int _ _)) (opv_assign rfl) rfl ?_
    refine RO.nil ?_
    refine thenQ_normal ?_
    refine ⟨i+1, 1, (by rw [hK]; exact Nat.le_of_ble_eq_true rfl), ⟨rfl, rfl, trivial⟩, ⟨?_, ?_, trivial⟩, rfl, ?_, ?_⟩
    · refine int_eq ?_; have hs := sizes_take t.kids i t.kids[i] (by simp); have := sizes_take_le t.kids (i + 1); rw [wrap64 (by omega) (by omega)]; omega
    · refine int_eq ?_; rw [wrap64 (by omega) (by omega)]; omega
    · omega
    · omega
  · try simp only [decide_eq_true_eq, decide_eq_false_iff_not, beq_iff_eq, beq_eq_false_iff_ne, bne_iff_ne, bne_eq_false_iff_eq, Int.not_lt, Int.not_le, ne_eq, Bool.not_eq_true', Bool.not_eq_false', gt_iff_lt, ge_iff_le] at h1
    have h1 : i = t.kids.length := by omega
    refine RO.nil ?_
    refine Runs.condF rfl ?_
    refine Runs.exit ?_
    refine thenQ_exit ?_
    refine thenQ_exit ?_
    refine blockQ_here ?_
    refine thenQ_normal ?_
    refine Runs.has [(2, .d (.int _ _)), (3, .d (.int _ _))] ⟨rfl, rfl, trivial⟩ ?_
    refine Runs.rseq ?_
    refine RO.opv (v' := .d (.int _ _)) (opv_move rfl) rfl ?_
    refine RO.opv (v' := .d (.int _ _)) (opv_assign rfl) rfl ?_
    refine RO.nil ?_
    refine Runs.ret ?_
    refine EndQ.tmp (.inr rfl) rfl rfl 0 (by exact Nat.le_refl _) (by exact Nat.zero_le _) trivial ⟨?_, rfl⟩
    refine int_eq ?_; subst h1; rw [List.take_length, hS]; omega
theorem rsize_fn (t : Term) (hb : t.bulk ≤ 2 ^ 30) : Fn Try.prog 25 [.d (enc t)] [] (.d (.int .i64 (t.size : Nat))) [] := rsize_aux t.size t (Nat.le_refl _) hb
theorem ints_fn (l m : List Int) (hl : l.length ≤ 2 ^ 30) (hm : m.length ≤ 2 ^ 30) : Fn Try.prog 18 [.d (.list (ints l)), .d (.list (ints m))] [] (.d (.bool (decide (l = m)))) [] := by
  refine Does.run Try.func18 rfl Try.ntmps18 rfl fun K hK => ?_
  refine Runs.rseq ?_
  refine RO.opv (v' := .d (.bool false)) (opv_assign rfl) rfl ?_
  refine RO.nil ?_
  refine Runs.seq ?_
  refine Runs.rseq ?_
  refine RO.opv (v' := .d (.list (ints _))) (opv_move rfl) rfl ?_
  refine RO.opv (v' := .d (.int _ _)) (opv_len_ints rfl) rfl ?_
  refine RO.opv (v' := .d (.list (ints _))) (opv_move rfl) rfl ?_
  refine RO.opv (v' := .d (.int _ _)) (opv_len_ints rfl) rfl ?_
  refine RO.opc (opv_bin rfl rfl rfl) (fun h1 => ?_) (fun h1 => ?_)
  · try simp only [decide_eq_true_eq, decide_eq_false_iff_not, beq_iff_eq, beq_eq_false_iff_ne, bne_iff_ne, bne_eq_false_iff_eq, Int.not_lt, Int.not_le, ne_eq, Bool.not_eq_true', Bool.not_eq_false', gt_iff_lt, ge_iff_le] at h1
    skip
    refine RO.nil ?_
    refine Runs.condT rfl ?_
    refine Runs.has [(0, .d (.list (ints _))), (1, .d (.list (ints _))), (4, .d (.bool false))] ⟨rfl, rfl, rfl, trivial⟩ ?_
    refine Runs.rseq ?_
    refine RO.opv (v' := .d (.bool false)) (opv_assign rfl) rfl ?_
    refine RO.nil ?_
    refine Runs.ret ?_
    refine thenQ_ret ?_
    refine EndQ.tmp (.inr rfl) rfl rfl 0 (by exact Nat.le_refl _) (by exact Nat.zero_le _) trivial ⟨?_, rfl⟩
    refine bool_eq ?_; exact (decide_eq_false (fun e => h1 (by rw [e]))).symm
  · try simp only [decide_eq_true_eq, decide_eq_false_iff_not, beq_iff_eq, beq_eq_false_iff_ne, bne_iff_ne, bne_eq_false_iff_eq, Int.not_lt, Int.not_le, ne_eq, Bool.not_eq_true', Bool.not_eq_false', gt_iff_lt, ge_iff_le] at h1
    have hlm : l.length = m.length := by omega
    refine RO.nil ?_
    refine Runs.condF rfl ?_
    refine Runs.skip ?_
    refine thenQ_normal ?_
    refine Runs.has [(0, .d (.list (ints _))), (1, .d (.list (ints _))), (4, .d (.bool false))] ⟨rfl, rfl, rfl, trivial⟩ ?_
    refine Runs.seq ?_
    refine Runs.rseq ?_
    refine RO.opv (v' := .d (.int _ _)) (opv_assign rfl) rfl ?_
    refine RO.nil ?_
    refine Runs.block ?_
    refine Runs.loopC (X := Nat) (fun i => i ≤ l.length ∧ decide (l = m) = decide (l.drop i = m.drop i)) (fun i => l.length - i) [(0, .d (.list (ints _))), (1, .d (.list (ints _)))] (fun i => [(5, .d (.int .i64 (i : Nat)))]) [] (fun i => []) (0) ⟨rfl, rfl, trivial⟩ ⟨rfl, trivial⟩ rfl ⟨Nat.zero_le _, rfl⟩ fun i hi => ?_
    refine Runs.seq ?_
    refine Runs.rseq ?_
    refine RO.opv (v' := .d (.int _ _)) (opv_move rfl) rfl ?_
    refine RO.opv (v' := .d (.list (ints _))) (opv_move rfl) rfl ?_
    refine RO.opv (v' := .d (.int _ _)) (opv_len_ints rfl) rfl ?_
    refine RO.opc (opv_bin rfl rfl rfl) (fun h2 => ?_) (fun h2 => ?_)
    · try simp only [decide_eq_true_eq, decide_eq_false_iff_not, beq_iff_eq, beq_eq_false_iff_ne, bne_iff_ne, bne_eq_false_iff_eq, Int.not_lt, Int.not_le, ne_eq, Bool.not_eq_true', Bool.not_eq_false', gt_iff_lt, ge_iff_le] at h2
      have h2 : i < l.length := by omega
      refine RO.nil ?_
      refine Runs.condT rfl ?_
      refine Runs.skip ?_
      refine thenQ_normal ?_
      refine Runs.has [(0, .d (.list (ints _))), (1, .d (.list (ints _))), (5, .d (.int _ _))] ⟨rfl, rfl, rfl, trivial⟩ ?_
      refine Runs.seq ?_
      refine Runs.block ?_
      refine Runs.seq ?_
      refine Runs.drawn (by kernel_rfl) [] [false, false, false, false, false, false, false, false, false] [false, false, false, false, false, false, false, false, false] (by decide +kernel) ?_
      refine RD.opv (v' := .d (.list (ints _))) (opv_move rfl) rfl ?_
      refine RD.opv (v' := .d (.int _ _)) (opv_move rfl) rfl ?_
      refine RD.opv (v' := .d (.ptr _)) (opv_index_ints rfl rfl (by omega)) rfl ?_
      refine RD.opv (v' := .d (.int _ _)) (opv_load_ptr rfl rfl) rfl ?_
      refine RD.opv (v' := .d (.list (ints _))) (opv_move rfl) rfl ?_
      refine RD.opv (v' := .d (.int _ _)) (opv_move rfl) rfl ?_
      refine RD.opv (v' := .d (.ptr _)) (opv_index_ints rfl rfl (by omega)) rfl ?_
      refine RD.opv (v' := .d (.int _ _)) (opv_load_ptr rfl rfl) rfl ?_
      refine RD.opc (opv_bin rfl rfl rfl) (fun h3 => ?_) (fun h3 => ?_)
      · try simp only [decide_eq_true_eq, decide_eq_false_iff_not, beq_iff_eq, beq_eq_false_iff_ne, bne_iff_ne, bne_eq_false_iff_eq, Int.not_lt, Int.not_le, ne_eq, Bool.not_eq_true', Bool.not_eq_false', gt_iff_lt, ge_iff_le] at h3
        refine RD.nil ?_
        refine thenQ_normal ?_
        refine Runs.condT rfl ?_
        refine Runs.has [(0, .d (.list (ints _))), (1, .d (.list (ints _))), (5, .d (.int _ _))] ⟨rfl, rfl, rfl, trivial⟩ ?_
        refine Runs.rseq ?_
        refine RO.opv (v' := .d (.bool false)) (opv_assign rfl) rfl ?_
        refine RO.nil ?_
        refine Runs.ret ?_
        refine blockQ_ret ?_
        refine thenQ_ret ?_
        refine thenQ_ret ?_
        refine blockQ_ret ?_
        refine thenQ_ret ?_
        refine EndQ.tmp (.inr rfl) rfl rfl 0 (by exact Nat.le_refl _) (by exact Nat.zero_le _) trivial ⟨?_, rfl⟩
        refine bool_eq ?_; rw [hi.2, ints_drop h2 (by omega)]; simp [h3]
      · try simp only [decide_eq_true_eq, decide_eq_false_iff_not, beq_iff_eq, beq_eq_false_iff_ne, bne_iff_ne, bne_eq_false_iff_eq, Int.not_lt, Int.not_le, ne_eq, Bool.not_eq_true', Bool.not_eq_false', gt_iff_lt, ge_iff_le] at h3
        refine RD.nil ?_
        refine thenQ_normal ?_
        refine Runs.condF rfl ?_
        refine Runs.skip ?_
        refine blockQ_normal ?_
        refine thenQ_normal ?_
        refine Runs.has [(0, .d (.list (ints _))), (1, .d (.list (ints _))), (5, .d (.int _ _))] ⟨rfl, rfl, rfl, trivial⟩ ?_
        refine Runs.region ?_
        refine RO.opv (v' := .d (.int _ _)) (opv_move rfl) rfl ?_
        refine RO.opv (v' := .d (.int _ _)) (opv_bin rfl rfl rfl) rfl ?_
        refine RO.opv (v' := .d (.int _ _)) (opv_assign rfl) rfl ?_
        refine RO.nil ?_
        refine thenQ_normal ?_
        refine ⟨i + 1, 0, (by rw [hK]; exact Nat.le_of_ble_eq_true rfl), ⟨rfl, rfl, trivial⟩, ⟨?_, trivial⟩, rfl, ?_, ?_⟩
        · refine int_eq ?_; rw [wrap64 (by omega) (by omega)]; omega
        · refine ⟨by omega, ?_⟩
          rw [hi.2, ints_drop h2 (by omega), h3]; simp
        · omega
    · try simp only [decide_eq_true_eq, decide_eq_false_iff_not, beq_iff_eq, beq_eq_false_iff_ne, bne_iff_ne, bne_eq_false_iff_eq, Int.not_lt, Int.not_le, ne_eq, Bool.not_eq_true', Bool.not_eq_false', gt_iff_lt, ge_iff_le] at h2
      have h2 : i = l.length := by omega
      refine RO.nil ?_
      refine Runs.condF rfl ?_
      refine Runs.exit ?_
      refine thenQ_exit ?_
      refine thenQ_exit ?_
      refine blockQ_here ?_
      refine thenQ_normal ?_
      refine Runs.has [] trivial ?_
      refine Runs.rseq ?_
      refine RO.opv (v' := .d (.bool true)) (opv_assign rfl) rfl ?_
      refine RO.nil ?_
      refine Runs.ret ?_
      refine EndQ.tmp (.inr rfl) rfl rfl 0 (by exact Nat.le_refl _) (by exact Nat.zero_le _) trivial ⟨?_, rfl⟩
      refine bool_eq ?_; rw [hi.2, h2, List.drop_length, hlm, List.drop_length]; rfl
theorem has_fn (l : List Int) (x : Int) (hl : l.length ≤ 2 ^ 30) : Fn Try.prog 17 [.d (.list (ints l)), .d (.int .i64 x)] [] (.d (.bool (decide (x ∈ l)))) [] := by
  refine Does.run Try.func17 rfl Try.ntmps17 rfl fun K hK => ?_
  refine Runs.rseq ?_
  refine RO.opv (v' := .d (.bool false)) (opv_assign rfl) rfl ?_
  refine RO.nil ?_
  refine Runs.seq ?_
  refine Runs.rseq ?_
  refine RO.opv (v' := .d (.int _ _)) (opv_assign rfl) rfl ?_
  refine RO.nil ?_
  refine Runs.block ?_
  refine Runs.loopC (X := Nat) (fun i => i ≤ l.length ∧ ∀ (j : Nat) (h : j < l.length), j < i → l[j] ≠ x) (fun i => l.length - i) [(0, .d (.list (ints _))), (1, .d (.int _ _))] (fun i => [(5, .d (.int .i64 (i : Nat)))]) [] (fun i => []) (0) ⟨rfl, rfl, trivial⟩ ⟨rfl, trivial⟩ rfl ⟨Nat.zero_le _, fun j h h0 => absurd h0 (Nat.not_lt_zero _)⟩ fun i hi => ?_
  refine Runs.seq ?_
  refine Runs.rseq ?_
  refine RO.opv (v' := .d (.int _ _)) (opv_move rfl) rfl ?_
  refine RO.opv (v' := .d (.list (ints _))) (opv_move rfl) rfl ?_
  refine RO.opv (v' := .d (.int _ _)) (opv_len_ints rfl) rfl ?_
  refine RO.opc (opv_bin rfl rfl rfl) (fun h1 => ?_) (fun h1 => ?_)
  · try simp only [decide_eq_true_eq, decide_eq_false_iff_not, beq_iff_eq, beq_eq_false_iff_ne, bne_iff_ne, bne_eq_false_iff_eq, Int.not_lt, Int.not_le, ne_eq, Bool.not_eq_true', Bool.not_eq_false', gt_iff_lt, ge_iff_le] at h1
    have h1 : i < l.length := by omega
    refine RO.nil ?_
    refine Runs.condT rfl ?_
    refine Runs.skip ?_
    refine thenQ_normal ?_
    refine Runs.has [(0, .d (.list (ints _))), (1, .d (.int _ _)), (5, .d (.int _ _))] ⟨rfl, rfl, rfl, trivial⟩ ?_
    refine Runs.seq ?_
    refine Runs.block ?_
    refine Runs.rseq ?_
    refine RO.opv (v' := .d (.list (ints _))) (opv_move rfl) rfl ?_
    refine RO.opv (v' := .d (.int _ _)) (opv_move rfl) rfl ?_
    refine RO.opv (v' := .d (.ptr _)) (opv_index_ints rfl rfl (by omega)) rfl ?_
    refine RO.opv (v' := .d (.int _ _)) (opv_load_ptr rfl rfl) rfl ?_
    refine RO.opv (v' := .d (.int _ _)) (opv_move rfl) rfl ?_
    refine RO.opc (opv_bin rfl rfl rfl) (fun h2 => ?_) (fun h2 => ?_)
    · try simp only [decide_eq_true_eq, decide_eq_false_iff_not, beq_iff_eq, beq_eq_false_iff_ne, bne_iff_ne, bne_eq_false_iff_eq, Int.not_lt, Int.not_le, ne_eq, Bool.not_eq_true', Bool.not_eq_false', gt_iff_lt, ge_iff_le] at h2
      refine RO.nil ?_
      refine Runs.condT rfl ?_
      refine Runs.has [(0, .d (.list (ints _))), (1, .d (.int _ _)), (5, .d (.int _ _))] ⟨rfl, rfl, rfl, trivial⟩ ?_
      refine Runs.rseq ?_
      refine RO.opv (v' := .d (.bool true)) (opv_assign rfl) rfl ?_
      refine RO.nil ?_
      refine Runs.ret ?_
      refine blockQ_ret ?_
      refine thenQ_ret ?_
      refine thenQ_ret ?_
      refine blockQ_ret ?_
      refine thenQ_ret ?_
      refine EndQ.tmp (.inr rfl) rfl rfl 0 (by exact Nat.le_refl _) (by exact Nat.zero_le _) trivial ⟨?_, rfl⟩
      refine bool_eq ?_; exact (decide_eq_true (h2 ▸ List.getElem_mem h1)).symm
    · try simp only [decide_eq_true_eq, decide_eq_false_iff_not, beq_iff_eq, beq_eq_false_iff_ne, bne_iff_ne, bne_eq_false_iff_eq, Int.not_lt, Int.not_le, ne_eq, Bool.not_eq_true', Bool.not_eq_false', gt_iff_lt, ge_iff_le] at h2
      refine RO.nil ?_
      refine Runs.condF rfl ?_
      refine Runs.skip ?_
      refine blockQ_normal ?_
      refine thenQ_normal ?_
      refine Runs.has [(0, .d (.list (ints _))), (1, .d (.int _ _)), (5, .d (.int _ _))] ⟨rfl, rfl, rfl, trivial⟩ ?_
      refine Runs.region ?_
      refine RO.opv (v' := .d (.int _ _)) (opv_move rfl) rfl ?_
      refine RO.opv (v' := .d (.int _ _)) (opv_bin rfl rfl rfl) rfl ?_
      refine RO.opv (v' := .d (.int _ _)) (opv_assign rfl) rfl ?_
      refine RO.nil ?_
      refine thenQ_normal ?_
      refine ⟨i + 1, 0, (by rw [hK]; exact Nat.le_of_ble_eq_true rfl), ⟨rfl, rfl, trivial⟩, ⟨?_, trivial⟩, rfl, ?_, ?_⟩
      · refine int_eq ?_; rw [wrap64 (by omega) (by omega)]; omega
      · refine ⟨by omega, fun j hj hji => ?_⟩
        by_cases e : j = i
        · subst e; exact h2
        · exact hi.2 j hj (by omega)
      · omega
  · try simp only [decide_eq_true_eq, decide_eq_false_iff_not, beq_iff_eq, beq_eq_false_iff_ne, bne_iff_ne, bne_eq_false_iff_eq, Int.not_lt, Int.not_le, ne_eq, Bool.not_eq_true', Bool.not_eq_false', gt_iff_lt, ge_iff_le] at h1
    have h1 : i = l.length := by omega
    refine RO.nil ?_
    refine Runs.condF rfl ?_
    refine Runs.exit ?_
    refine thenQ_exit ?_
    refine thenQ_exit ?_
    refine blockQ_here ?_
    refine thenQ_normal ?_
    refine Runs.has [] trivial ?_
    refine Runs.rseq ?_
    refine RO.opv (v' := .d (.bool false)) (opv_assign rfl) rfl ?_
    refine RO.nil ?_
    refine Runs.ret ?_
    refine EndQ.tmp (.inr rfl) rfl rfl 0 (by exact Nat.le_refl _) (by exact Nat.zero_le _) trivial ⟨?_, rfl⟩
    refine bool_eq ?_; exact (decide_eq_false (not_mem_of fun j hj => hi.2 j hj (by omega))).symm
theorem rsame_aux  : ∀ (m : Nat) (t u : Term), t.size ≤ m → t.bulk ≤ 2 ^ 30 → u.bulk ≤ 2 ^ 30 → Fn Try.prog 28 [.d (enc t), .d (enc u)] [] (.d (.bool (same t u))) [] := by
  intro m
  induction m with
  | zero => intro t u h; have := t.size_kids; omega
  | succ m ih =>
  intro t u hm hb hb'
  have hS := t.size_kids
  have hU := t.bulk_kids
  have hU' := u.bulk_kids
  have hL := bulks_len t.kids
  refine Does.run Try.func28 rfl Try.ntmps28 rfl fun K hK => ?_
  refine Runs.rseq ?_
  refine RO.opn (v' := .ref 0 0) (O' := [_]) (opv_box_term rfl) rfl rfl ?_
  refine RO.opn (v' := .ref 1 0) (O' := [_, _]) (opv_box_term rfl) rfl rfl ?_
  refine RO.opv (v' := .d (.bool false)) (opv_assign rfl) rfl ?_
  refine RO.nil ?_
  refine Runs.has [(2, .ref 0 0), (3, .ref 1 0), (4, .d (.bool false))] ⟨rfl, rfl, rfl, trivial⟩ ?_
  refine Runs.seq ?_
  refine Runs.rseq ?_
  refine RO.opv (v' := .ref 0 0) (opv_field_ref rfl rfl) rfl ?_
  refine RO.opv (v' := .d (.int _ _)) (opv_load_ref rfl rfl rfl) rfl ?_
  refine RO.opv (v' := .ref 1 0) (opv_field_ref rfl rfl) rfl ?_
  refine RO.opv (v' := .d (.int _ _)) (opv_load_ref rfl rfl rfl) rfl ?_
  refine RO.opv (v' := .d (.bool _)) (opv_bin rfl rfl rfl) rfl ?_
  refine RO.opc (opv_move rfl) (fun h1 => ?_) (fun h1 => ?_)
  · try simp only [decide_eq_true_eq, decide_eq_false_iff_not, beq_iff_eq, beq_eq_false_iff_ne, bne_iff_ne, bne_eq_false_iff_eq, Int.not_lt, Int.not_le, ne_eq, Bool.not_eq_true', Bool.not_eq_false', gt_iff_lt, ge_iff_le] at h1
    refine RO.off rfl ?_
    refine RO.off rfl ?_
    refine RO.off rfl ?_
    refine RO.off rfl ?_
    refine RO.off rfl ?_
    refine RO.opv (v' := .d (.bool true)) (opv_pick rfl rfl) rfl ?_
    refine RO.opv (v' := .d (.bool true)) (opv_move rfl) rfl ?_
    refine RO.off rfl ?_
    refine RO.off rfl ?_
    refine RO.off rfl ?_
    refine RO.off rfl ?_
    refine RO.off rfl ?_
    refine RO.opv (v' := .d (.bool true)) (opv_pick rfl rfl) rfl ?_
    refine RO.opv (v' := .d (.bool true)) (opv_move rfl) rfl ?_
    refine RO.off rfl ?_
    refine RO.off rfl ?_
    refine RO.off rfl ?_
    refine RO.off rfl ?_
    refine RO.off rfl ?_
    refine RO.off rfl ?_
    refine RO.off rfl ?_
    refine RO.opv (v' := .d (.bool true)) (opv_pick rfl rfl) rfl ?_
    refine RO.nil ?_
    refine Runs.condT rfl ?_
    refine Runs.has [(2, .ref 0 0), (3, .ref 1 0), (4, .d (.bool false))] ⟨rfl, rfl, rfl, trivial⟩ ?_
    refine Runs.rseq ?_
    refine RO.opv (v' := .d (.bool false)) (opv_assign rfl) rfl ?_
    refine RO.nil ?_
    refine Runs.ret ?_
    refine thenQ_ret ?_
    refine EndQ.tmp (.inr rfl) rfl rfl 0 (by exact Nat.le_refl _) (by exact Nat.zero_le _) trivial ⟨?_, rfl⟩
    refine bool_eq ?_; rw [same_eq, beq_eq_false_iff_ne.2 h1]; simp
  · try simp only [decide_eq_true_eq, decide_eq_false_iff_not, beq_iff_eq, beq_eq_false_iff_ne, bne_iff_ne, bne_eq_false_iff_eq, Int.not_lt, Int.not_le, ne_eq, Bool.not_eq_true', Bool.not_eq_false', gt_iff_lt, ge_iff_le] at h1
    refine RO.opgv (v' := .ref 0 1) rfl (opv_field_ref rfl rfl) rfl ?_
    refine RO.opgv (v' := .d (.int _ _)) rfl (opv_load_ref rfl rfl rfl) rfl ?_
    refine RO.opgv (v' := .ref 1 1) rfl (opv_field_ref rfl rfl) rfl ?_
    refine RO.opgv (v' := .d (.int _ _)) rfl (opv_load_ref rfl rfl rfl) rfl ?_
    refine RO.opgv (v' := .d (.bool _)) rfl (opv_bin rfl rfl rfl) rfl ?_
    refine RO.opv (v' := .d (.bool _)) (opv_pick rfl rfl) rfl ?_
    refine RO.opc (opv_move rfl) (fun h2 => ?_) (fun h2 => ?_)
    · try simp only [decide_eq_true_eq, decide_eq_false_iff_not, beq_iff_eq, beq_eq_false_iff_ne, bne_iff_ne, bne_eq_false_iff_eq, Int.not_lt, Int.not_le, ne_eq, Bool.not_eq_true', Bool.not_eq_false', gt_iff_lt, ge_iff_le] at h2
      refine RO.off rfl ?_
      refine RO.off rfl ?_
      refine RO.off rfl ?_
      refine RO.off rfl ?_
      refine RO.off rfl ?_
      refine RO.opv (v' := .d (.bool true)) (opv_pick rfl rfl) rfl ?_
      refine RO.opv (v' := .d (.bool true)) (opv_move rfl) rfl ?_
      refine RO.off rfl ?_
      refine RO.off rfl ?_
      refine RO.off rfl ?_
      refine RO.off rfl ?_
      refine RO.off rfl ?_
      refine RO.off rfl ?_
      refine RO.off rfl ?_
      refine RO.opv (v' := .d (.bool true)) (opv_pick rfl rfl) rfl ?_
      refine RO.nil ?_
      refine Runs.condT rfl ?_
      refine Runs.has [(2, .ref 0 0), (3, .ref 1 0), (4, .d (.bool false))] ⟨rfl, rfl, rfl, trivial⟩ ?_
      refine Runs.rseq ?_
      refine RO.opv (v' := .d (.bool false)) (opv_assign rfl) rfl ?_
      refine RO.nil ?_
      refine Runs.ret ?_
      refine thenQ_ret ?_
      refine EndQ.tmp (.inr rfl) rfl rfl 0 (by exact Nat.le_refl _) (by exact Nat.zero_le _) trivial ⟨?_, rfl⟩
      refine bool_eq ?_; rw [same_eq, beq_eq_false_iff_ne.2 h2]; simp
    · try simp only [decide_eq_true_eq, decide_eq_false_iff_not, beq_iff_eq, beq_eq_false_iff_ne, bne_iff_ne, bne_eq_false_iff_eq, Int.not_lt, Int.not_le, ne_eq, Bool.not_eq_true', Bool.not_eq_false', gt_iff_lt, ge_iff_le] at h2
      refine RO.opgv (v' := .ref 0 2) rfl (opv_field_ref rfl rfl) rfl ?_
      refine RO.opgv (v' := .d (.str _)) rfl (opv_load_ref rfl rfl rfl) rfl ?_
      refine RO.opgv (v' := .ref 1 2) rfl (opv_field_ref rfl rfl) rfl ?_
      refine RO.opgv (v' := .d (.str _)) rfl (opv_load_ref rfl rfl rfl) rfl ?_
      refine RO.opgv (v' := .d (.bool _)) rfl (opv_bin rfl rfl rfl) rfl ?_
      refine RO.opv (v' := .d (.bool _)) (opv_pick rfl rfl) rfl ?_
      refine RO.opc (opv_move rfl) (fun h3 => ?_) (fun h3 => ?_)
      · try simp only [decide_eq_true_eq, decide_eq_false_iff_not, beq_iff_eq, beq_eq_false_iff_ne, bne_iff_ne, bne_eq_false_iff_eq, Int.not_lt, Int.not_le, ne_eq, Bool.not_eq_true', Bool.not_eq_false', gt_iff_lt, ge_iff_le] at h3
        refine RO.off rfl ?_
        refine RO.off rfl ?_
        refine RO.off rfl ?_
        refine RO.off rfl ?_
        refine RO.off rfl ?_
        refine RO.off rfl ?_
        refine RO.off rfl ?_
        refine RO.opv (v' := .d (.bool true)) (opv_pick rfl rfl) rfl ?_
        refine RO.nil ?_
        refine Runs.condT rfl ?_
        refine Runs.has [(2, .ref 0 0), (3, .ref 1 0), (4, .d (.bool false))] ⟨rfl, rfl, rfl, trivial⟩ ?_
        refine Runs.rseq ?_
        refine RO.opv (v' := .d (.bool false)) (opv_assign rfl) rfl ?_
        refine RO.nil ?_
        refine Runs.ret ?_
        refine thenQ_ret ?_
        refine EndQ.tmp (.inr rfl) rfl rfl 0 (by exact Nat.le_refl _) (by exact Nat.zero_le _) trivial ⟨?_, rfl⟩
        refine bool_eq ?_; rw [same_eq, beq_eq_false_iff_ne.2 h3]; simp
      · try simp only [decide_eq_true_eq, decide_eq_false_iff_not, beq_iff_eq, beq_eq_false_iff_ne, bne_iff_ne, bne_eq_false_iff_eq, Int.not_lt, Int.not_le, ne_eq, Bool.not_eq_true', Bool.not_eq_false', gt_iff_lt, ge_iff_le] at h3
        refine RO.opgv (v' := .ref 0 3) rfl (opv_field_ref rfl rfl) rfl ?_
        refine RO.opgv (v' := .d (.list (encs _))) rfl (opv_load_ref rfl rfl rfl) rfl ?_
        refine RO.opgv (v' := .d (.int _ _)) rfl (opv_len_terms rfl) rfl ?_
        refine RO.opgv (v' := .ref 1 3) rfl (opv_field_ref rfl rfl) rfl ?_
        refine RO.opgv (v' := .d (.list (encs _))) rfl (opv_load_ref rfl rfl rfl) rfl ?_
        refine RO.opgv (v' := .d (.int _ _)) rfl (opv_len_terms rfl) rfl ?_
        refine RO.opgv (v' := .d (.bool _)) rfl (opv_bin rfl rfl rfl) rfl ?_
        refine RO.opc (opv_pick rfl rfl) (fun h4 => ?_) (fun h4 => ?_)
        · try simp only [decide_eq_true_eq, decide_eq_false_iff_not, beq_iff_eq, beq_eq_false_iff_ne, bne_iff_ne, bne_eq_false_iff_eq, Int.not_lt, Int.not_le, ne_eq, Bool.not_eq_true', Bool.not_eq_false', gt_iff_lt, ge_iff_le] at h4
          skip
          refine RO.nil ?_
          refine Runs.condT rfl ?_
          refine Runs.has [(2, .ref 0 0), (3, .ref 1 0), (4, .d (.bool false))] ⟨rfl, rfl, rfl, trivial⟩ ?_
          refine Runs.rseq ?_
          refine RO.opv (v' := .d (.bool false)) (opv_assign rfl) rfl ?_
          refine RO.nil ?_
          refine Runs.ret ?_
          refine thenQ_ret ?_
          refine EndQ.tmp (.inr rfl) rfl rfl 0 (by exact Nat.le_refl _) (by exact Nat.zero_le _) trivial ⟨?_, rfl⟩
          refine bool_eq ?_; rw [same_eq, sames_len (fun e => h4 (by rw [e]))]; simp
        · try simp only [decide_eq_true_eq, decide_eq_false_iff_not, beq_iff_eq, beq_eq_false_iff_ne, bne_iff_ne, bne_eq_false_iff_eq, Int.not_lt, Int.not_le, ne_eq, Bool.not_eq_true', Bool.not_eq_false', gt_iff_lt, ge_iff_le] at h4
          have hlm : t.kids.length = u.kids.length := by omega
          refine RO.nil ?_
          refine Runs.condF rfl ?_
          refine Runs.skip ?_
          refine thenQ_normal ?_
          refine Runs.has [(2, .ref 0 0), (3, .ref 1 0), (4, .d (.bool false))] ⟨rfl, rfl, rfl, trivial⟩ ?_
          refine Runs.seq ?_
          refine Runs.rseq ?_
          refine RO.opv (v' := .d (.int _ _)) (opv_assign rfl) rfl ?_
          refine RO.nil ?_
          refine Runs.block ?_
          refine Runs.loopC (X := Nat) (fun i => i ≤ t.kids.length ∧ sames t.kids u.kids = sames (t.kids.drop i) (u.kids.drop i)) (fun i => t.kids.length - i) [(2, .ref 0 0), (3, .ref 1 0)] (fun i => [(5, .d (.int .i64 (i : Nat)))]) [_, _] (fun i => []) (0) ⟨rfl, rfl, trivial⟩ ⟨rfl, trivial⟩ rfl ⟨Nat.zero_le _, rfl⟩ fun i hi => ?_
          refine Runs.seq ?_
          refine Runs.rseq ?_
          refine RO.opv (v' := .d (.int _ _)) (opv_move rfl) rfl ?_
          refine RO.opv (v' := .ref 0 3) (opv_field_ref rfl rfl) rfl ?_
          refine RO.opv (v' := .d (.list (encs _))) (opv_load_ref rfl rfl rfl) rfl ?_
          refine RO.opv (v' := .d (.int _ _)) (opv_len_terms rfl) rfl ?_
          refine RO.opc (opv_bin rfl rfl rfl) (fun h5 => ?_) (fun h5 => ?_)
          · try simp only [decide_eq_true_eq, decide_eq_false_iff_not, beq_iff_eq, beq_eq_false_iff_ne, bne_iff_ne, bne_eq_false_iff_eq, Int.not_lt, Int.not_le, ne_eq, Bool.not_eq_true', Bool.not_eq_false', gt_iff_lt, ge_iff_le] at h5
            have hk : i < t.kids.length := by omega
            refine RO.nil ?_
            refine Runs.condT rfl ?_
            refine Runs.skip ?_
            refine thenQ_normal ?_
            refine Runs.has [(2, .ref 0 0), (3, .ref 1 0), (5, .d (.int _ _))] ⟨rfl, rfl, rfl, trivial⟩ ?_
            refine Runs.seq ?_
            refine Runs.block ?_
            refine Runs.seq ?_
            refine Runs.drawn (by kernel_rfl) [] [false, false, false, false, false, false, false, false, false, false, false, false] [false, false, false, false, false, false, false, false, false, false, false, false] (by decide +kernel) ?_
            refine RD.opv (v' := .ref 0 3) (opv_field_ref rfl rfl) rfl ?_
            refine RD.opv (v' := .d (.list (encs _))) (opv_load_ref rfl rfl rfl) rfl ?_
            refine RD.opv (v' := .d (.int _ _)) (opv_move rfl) rfl ?_
            refine RD.opv (v' := .d (.ptr _)) (opv_index_terms rfl rfl (by omega)) rfl ?_
            refine RD.opv (v' := .d (enc _)) (opv_load_pterm rfl) rfl ?_
            refine RD.opv (v' := .ref 1 3) (opv_field_ref rfl rfl) rfl ?_
            refine RD.opv (v' := .d (.list (encs _))) (opv_load_ref rfl rfl rfl) rfl ?_
            refine RD.opv (v' := .d (.int _ _)) (opv_move rfl) rfl ?_
            refine RD.opv (v' := .d (.ptr _)) (opv_index_terms rfl rfl (by omega)) rfl ?_
            refine RD.opv (v' := .d (enc _)) (opv_load_pterm rfl) rfl ?_
            refine RD.opv (v' := .d (.bool _)) (opv_callF (ih t.kids[i] u.kids[i] (by have := sizes_mem (List.getElem_mem hk); omega) (by have := bulks_mem (List.getElem_mem hk); omega) (by have := bulks_mem (List.getElem_mem (l := u.kids) (n := i) (by omega)); omega)) rfl rfl rfl trivial) rfl ?_
            refine RD.opc (opv_not rfl rfl) (fun h6 => ?_) (fun h6 => ?_)
            · try simp only [decide_eq_true_eq, decide_eq_false_iff_not, beq_iff_eq, beq_eq_false_iff_ne, bne_iff_ne, bne_eq_false_iff_eq, Int.not_lt, Int.not_le, ne_eq, Bool.not_eq_true', Bool.not_eq_false', gt_iff_lt, ge_iff_le] at h6
              refine RD.nil ?_
              refine thenQ_normal ?_
              refine Runs.condT rfl ?_
              refine Runs.has [(2, .ref 0 0), (3, .ref 1 0), (5, .d (.int _ _))] ⟨rfl, rfl, rfl, trivial⟩ ?_
              refine Runs.rseq ?_
              refine RO.opv (v' := .d (.bool false)) (opv_assign rfl) rfl ?_
              refine RO.nil ?_
              refine Runs.ret ?_
              refine blockQ_ret ?_
              refine thenQ_ret ?_
              refine thenQ_ret ?_
              refine blockQ_ret ?_
              refine thenQ_ret ?_
              refine EndQ.tmp (.inr rfl) rfl rfl 0 (by exact Nat.le_refl _) (by exact Nat.zero_le _) trivial ⟨?_, rfl⟩
              refine bool_eq ?_; rw [same_eq, hi.2, sames_drop hk (by omega), h6]; simp
            · try simp only [decide_eq_true_eq, decide_eq_false_iff_not, beq_iff_eq, beq_eq_false_iff_ne, bne_iff_ne, bne_eq_false_iff_eq, Int.not_lt, Int.not_le, ne_eq, Bool.not_eq_true', Bool.not_eq_false', gt_iff_lt, ge_iff_le] at h6
              refine RD.nil ?_
              refine thenQ_normal ?_
              refine Runs.condF rfl ?_
              refine Runs.skip ?_
              refine blockQ_normal ?_
              refine thenQ_normal ?_
              refine Runs.has [(2, .ref 0 0), (3, .ref 1 0), (5, .d (.int _ _))] ⟨rfl, rfl, rfl, trivial⟩ ?_
              refine Runs.region ?_
              refine RO.opv (v' := .d (.int _ _)) (opv_move rfl) rfl ?_
              refine RO.opv (v' := .d (.int _ _)) (opv_bin rfl rfl rfl) rfl ?_
              refine RO.opv (v' := .d (.int _ _)) (opv_assign rfl) rfl ?_
              refine RO.nil ?_
              refine thenQ_normal ?_
              refine ⟨i + 1, 2, (by rw [hK]; exact Nat.le_of_ble_eq_true rfl), ⟨rfl, rfl, trivial⟩, ⟨?_, trivial⟩, rfl, ?_, ?_⟩
              · refine int_eq ?_; rw [wrap64 (by omega) (by omega)]; omega
              · refine ⟨by omega, ?_⟩
                rw [hi.2, sames_drop hk (by omega), h6, Bool.true_and]
              · omega
          · try simp only [decide_eq_true_eq, decide_eq_false_iff_not, beq_iff_eq, beq_eq_false_iff_ne, bne_iff_ne, bne_eq_false_iff_eq, Int.not_lt, Int.not_le, ne_eq, Bool.not_eq_true', Bool.not_eq_false', gt_iff_lt, ge_iff_le] at h5
            have hk : i = t.kids.length := by omega
            refine RO.nil ?_
            refine Runs.condF rfl ?_
            refine Runs.exit ?_
            refine thenQ_exit ?_
            refine thenQ_exit ?_
            refine blockQ_here ?_
            refine thenQ_normal ?_
            refine Runs.has [] trivial ?_
            refine Runs.rseq ?_
            refine RO.opv (v' := .d (.bool true)) (opv_assign rfl) rfl ?_
            refine RO.nil ?_
            refine Runs.ret ?_
            refine EndQ.tmp (.inr rfl) rfl rfl 0 (by exact Nat.le_refl _) (by exact Nat.zero_le _) trivial ⟨?_, rfl⟩
            refine bool_eq ?_; rw [same_eq, h1, h2, h3, hi.2, hk, List.drop_length, hlm, List.drop_length]; simp [sames]
theorem rsame_fn (t u : Term) (hb : t.bulk ≤ 2 ^ 30) (hb' : u.bulk ≤ 2 ^ 30) : Fn Try.prog 28 [.d (enc t), .d (enc u)] [] (.d (.bool (same t u))) [] := rsame_aux t.size t u (Nat.le_refl _) hb hb'
theorem lists_fn (l m : List Term) (hl : bulks l ≤ 2 ^ 30) (hm : bulks m ≤ 2 ^ 30) : Fn Try.prog 22 [.d (.list (encs l)), .d (.list (encs m))] [] (.d (.bool (sames l m))) [] := by
  have hL := bulks_len l
  have hM := bulks_len m
  refine Does.run Try.func22 rfl Try.ntmps22 rfl fun K hK => ?_
  refine Runs.rseq ?_
  refine RO.opv (v' := .d (.bool false)) (opv_assign rfl) rfl ?_
  refine RO.nil ?_
  refine Runs.seq ?_
  refine Runs.rseq ?_
  refine RO.opv (v' := .d (.list (encs _))) (opv_move rfl) rfl ?_
  refine RO.opv (v' := .d (.int _ _)) (opv_len_terms rfl) rfl ?_
  refine RO.opv (v' := .d (.list (encs _))) (opv_move rfl) rfl ?_
  refine RO.opv (v' := .d (.int _ _)) (opv_len_terms rfl) rfl ?_
  refine RO.opc (opv_bin rfl rfl rfl) (fun h1 => ?_) (fun h1 => ?_)
  · try simp only [decide_eq_true_eq, decide_eq_false_iff_not, beq_iff_eq, beq_eq_false_iff_ne, bne_iff_ne, bne_eq_false_iff_eq, Int.not_lt, Int.not_le, ne_eq, Bool.not_eq_true', Bool.not_eq_false', gt_iff_lt, ge_iff_le] at h1
    skip
    refine RO.nil ?_
    refine Runs.condT rfl ?_
    refine Runs.has [(0, .d (.list (encs _))), (1, .d (.list (encs _))), (4, .d (.bool false))] ⟨rfl, rfl, rfl, trivial⟩ ?_
    refine Runs.rseq ?_
    refine RO.opv (v' := .d (.bool false)) (opv_assign rfl) rfl ?_
    refine RO.nil ?_
    refine Runs.ret ?_
    refine thenQ_ret ?_
    refine EndQ.tmp (.inr rfl) rfl rfl 0 (by exact Nat.le_refl _) (by exact Nat.zero_le _) trivial ⟨?_, rfl⟩
    refine bool_eq ?_; exact (sames_len (fun e => h1 (by rw [e]))).symm
  · try simp only [decide_eq_true_eq, decide_eq_false_iff_not, beq_iff_eq, beq_eq_false_iff_ne, bne_iff_ne, bne_eq_false_iff_eq, Int.not_lt, Int.not_le, ne_eq, Bool.not_eq_true', Bool.not_eq_false', gt_iff_lt, ge_iff_le] at h1
    have hlm : l.length = m.length := by omega
    refine RO.nil ?_
    refine Runs.condF rfl ?_
    refine Runs.skip ?_
    refine thenQ_normal ?_
    refine Runs.has [(0, .d (.list (encs _))), (1, .d (.list (encs _))), (4, .d (.bool false))] ⟨rfl, rfl, rfl, trivial⟩ ?_
    refine Runs.seq ?_
    refine Runs.rseq ?_
    refine RO.opv (v' := .d (.int _ _)) (opv_assign rfl) rfl ?_
    refine RO.nil ?_
    refine Runs.block ?_
    refine Runs.loopC (X := Nat) (fun i => i ≤ l.length ∧ sames l m = sames (l.drop i) (m.drop i)) (fun i => l.length - i) [(0, .d (.list (encs _))), (1, .d (.list (encs _)))] (fun i => [(5, .d (.int .i64 (i : Nat)))]) [] (fun i => []) (0) ⟨rfl, rfl, trivial⟩ ⟨rfl, trivial⟩ rfl ⟨Nat.zero_le _, rfl⟩ fun i hi => ?_
    refine Runs.seq ?_
    refine Runs.rseq ?_
    refine RO.opv (v' := .d (.int _ _)) (opv_move rfl) rfl ?_
    refine RO.opv (v' := .d (.list (encs _))) (opv_move rfl) rfl ?_
    refine RO.opv (v' := .d (.int _ _)) (opv_len_terms rfl) rfl ?_
    refine RO.opc (opv_bin rfl rfl rfl) (fun h2 => ?_) (fun h2 => ?_)
    · try simp only [decide_eq_true_eq, decide_eq_false_iff_not, beq_iff_eq, beq_eq_false_iff_ne, bne_iff_ne, bne_eq_false_iff_eq, Int.not_lt, Int.not_le, ne_eq, Bool.not_eq_true', Bool.not_eq_false', gt_iff_lt, ge_iff_le] at h2
      have hk : i < l.length := by omega
      refine RO.nil ?_
      refine Runs.condT rfl ?_
      refine Runs.skip ?_
      refine thenQ_normal ?_
      refine Runs.has [(0, .d (.list (encs _))), (1, .d (.list (encs _))), (5, .d (.int _ _))] ⟨rfl, rfl, rfl, trivial⟩ ?_
      refine Runs.seq ?_
      refine Runs.block ?_
      refine Runs.seq ?_
      refine Runs.drawn (by kernel_rfl) [] [false, false, false, false, false, false, false, false, false, false] [false, false, false, false, false, false, false, false, false, false] (by decide +kernel) ?_
      refine RD.opv (v' := .d (.list (encs _))) (opv_move rfl) rfl ?_
      refine RD.opv (v' := .d (.int _ _)) (opv_move rfl) rfl ?_
      refine RD.opv (v' := .d (.ptr _)) (opv_index_terms rfl rfl (by omega)) rfl ?_
      refine RD.opv (v' := .d (enc _)) (opv_load_pterm rfl) rfl ?_
      refine RD.opv (v' := .d (.list (encs _))) (opv_move rfl) rfl ?_
      refine RD.opv (v' := .d (.int _ _)) (opv_move rfl) rfl ?_
      refine RD.opv (v' := .d (.ptr _)) (opv_index_terms rfl rfl (by omega)) rfl ?_
      refine RD.opv (v' := .d (enc _)) (opv_load_pterm rfl) rfl ?_
      refine RD.opv (v' := .d (.bool _)) (opv_callF (rsame_fn l[i] m[i] (by have := bulks_mem (List.getElem_mem hk); omega) (by have := bulks_mem (List.getElem_mem (l := m) (n := i) (by omega)); omega)) rfl rfl rfl trivial) rfl ?_
      refine RD.opc (opv_not rfl rfl) (fun h3 => ?_) (fun h3 => ?_)
      · try simp only [decide_eq_true_eq, decide_eq_false_iff_not, beq_iff_eq, beq_eq_false_iff_ne, bne_iff_ne, bne_eq_false_iff_eq, Int.not_lt, Int.not_le, ne_eq, Bool.not_eq_true', Bool.not_eq_false', gt_iff_lt, ge_iff_le] at h3
        refine RD.nil ?_
        refine thenQ_normal ?_
        refine Runs.condT rfl ?_
        refine Runs.has [(0, .d (.list (encs _))), (1, .d (.list (encs _))), (5, .d (.int _ _))] ⟨rfl, rfl, rfl, trivial⟩ ?_
        refine Runs.rseq ?_
        refine RO.opv (v' := .d (.bool false)) (opv_assign rfl) rfl ?_
        refine RO.nil ?_
        refine Runs.ret ?_
        refine blockQ_ret ?_
        refine thenQ_ret ?_
        refine thenQ_ret ?_
        refine blockQ_ret ?_
        refine thenQ_ret ?_
        refine EndQ.tmp (.inr rfl) rfl rfl 0 (by exact Nat.le_refl _) (by exact Nat.zero_le _) trivial ⟨?_, rfl⟩
        refine bool_eq ?_; rw [hi.2, sames_drop hk (by omega), h3, Bool.false_and]
      · try simp only [decide_eq_true_eq, decide_eq_false_iff_not, beq_iff_eq, beq_eq_false_iff_ne, bne_iff_ne, bne_eq_false_iff_eq, Int.not_lt, Int.not_le, ne_eq, Bool.not_eq_true', Bool.not_eq_false', gt_iff_lt, ge_iff_le] at h3
        refine RD.nil ?_
        refine thenQ_normal ?_
        refine Runs.condF rfl ?_
        refine Runs.skip ?_
        refine blockQ_normal ?_
        refine thenQ_normal ?_
        refine Runs.has [(0, .d (.list (encs _))), (1, .d (.list (encs _))), (5, .d (.int _ _))] ⟨rfl, rfl, rfl, trivial⟩ ?_
        refine Runs.region ?_
        refine RO.opv (v' := .d (.int _ _)) (opv_move rfl) rfl ?_
        refine RO.opv (v' := .d (.int _ _)) (opv_bin rfl rfl rfl) rfl ?_
        refine RO.opv (v' := .d (.int _ _)) (opv_assign rfl) rfl ?_
        refine RO.nil ?_
        refine thenQ_normal ?_
        refine ⟨i + 1, 0, (by rw [hK]; exact Nat.le_of_ble_eq_true rfl), ⟨rfl, rfl, trivial⟩, ⟨?_, trivial⟩, rfl, ?_, ?_⟩
        · refine int_eq ?_; rw [wrap64 (by omega) (by omega)]; omega
        · refine ⟨by omega, ?_⟩
          rw [hi.2, sames_drop hk (by omega), h3, Bool.true_and]
        · omega
    · try simp only [decide_eq_true_eq, decide_eq_false_iff_not, beq_iff_eq, beq_eq_false_iff_ne, bne_iff_ne, bne_eq_false_iff_eq, Int.not_lt, Int.not_le, ne_eq, Bool.not_eq_true', Bool.not_eq_false', gt_iff_lt, ge_iff_le] at h2
      have hk : i = l.length := by omega
      refine RO.nil ?_
      refine Runs.condF rfl ?_
      refine Runs.exit ?_
      refine thenQ_exit ?_
      refine thenQ_exit ?_
      refine blockQ_here ?_
      refine thenQ_normal ?_
      refine Runs.has [] trivial ?_
      refine Runs.rseq ?_
      refine RO.opv (v' := .d (.bool true)) (opv_assign rfl) rfl ?_
      refine RO.nil ?_
      refine Runs.ret ?_
      refine EndQ.tmp (.inr rfl) rfl rfl 0 (by exact Nat.le_refl _) (by exact Nat.zero_le _) trivial ⟨?_, rfl⟩
      refine bool_eq ?_; rw [hi.2, hk, List.drop_length, hlm, List.drop_length]; rfl
theorem gather_aux  : ∀ (m : Nat) (t : Term) (l : List Int), t.size ≤ m → t.bulk ≤ 2 ^ 28 → l.length + t.size ≤ 2 ^ 28 → Fn Try.prog 37 [.d (.list (ints l)), .d (enc t)] [] (.d (.list (ints (t.parts.foldl addVar l)))) [] := by
  intro m
  induction m with
  | zero => intro t l h; have := t.size_kids; omega
  | succ m ih =>
  intro t l hm hb hl
  have hS := t.size_kids
  have hU := t.bulk_kids
  have hL := bulks_len t.kids
  refine Does.run Try.func37 rfl Try.ntmps37 rfl fun K hK => ?_
  refine Runs.rseq ?_
  refine RO.opn (v' := .ref 0 0) (O' := [_]) (opv_box_term rfl) rfl rfl ?_
  refine RO.opv (v' := .nil0) (opv_assign rfl) rfl ?_
  refine RO.nil ?_
  refine Runs.has [(0, .d (.list (ints _))), (3, .ref 0 0), (4, .nil0)] ⟨rfl, rfl, rfl, trivial⟩ ?_
  refine Runs.seq ?_
  refine Runs.rseq ?_
  refine RO.opv (v' := .ref 0 0) (opv_field_ref rfl rfl) rfl ?_
  refine RO.opv (v' := .d (.int _ _)) (opv_load_ref rfl rfl rfl) rfl ?_
  refine RO.opv (v' := .d (.bool _)) (opv_bin rfl rfl rfl) rfl ?_
  refine RO.opc (opv_move rfl) (fun h1 => ?_) (fun h1 => ?_)
  · try simp only [decide_eq_true_eq, decide_eq_false_iff_not, beq_iff_eq, beq_eq_false_iff_ne, bne_iff_ne, bne_eq_false_iff_eq, Int.not_lt, Int.not_le, ne_eq, Bool.not_eq_true', Bool.not_eq_false', gt_iff_lt, ge_iff_le] at h1
    refine RO.opgv (v' := .d (.list (ints _))) rfl (opv_move rfl) rfl ?_
    refine RO.opgv (v' := .ref 0 1) rfl (opv_field_ref rfl rfl) rfl ?_
    refine RO.opgv (v' := .d (.int _ _)) rfl (opv_load_ref rfl rfl rfl) rfl ?_
    refine RO.opgv (v' := .d (.bool _)) rfl (opv_callF (has_fn l t.num (by omega)) rfl rfl rfl trivial) rfl ?_
    refine RO.opgv (v' := .d (.bool _)) rfl (opv_not rfl rfl) rfl ?_
    refine RO.opc (opv_pick rfl rfl) (fun h2 => ?_) (fun h2 => ?_)
    · try simp only [decide_eq_true_eq, decide_eq_false_iff_not, beq_iff_eq, beq_eq_false_iff_ne, bne_iff_ne, bne_eq_false_iff_eq, Int.not_lt, Int.not_le, ne_eq, Bool.not_eq_true', Bool.not_eq_false', gt_iff_lt, ge_iff_le] at h2
      refine RO.nil ?_
      refine Runs.condT rfl ?_
      refine Runs.has [(0, .d (.list (ints _))), (3, .ref 0 0), (4, .nil0)] ⟨rfl, rfl, rfl, trivial⟩ ?_
      refine Runs.drawn (by kernel_rfl) [0] [false, false, false, true, true, true, false, false] [false, false, true, false, false, false, true, false] (by decide +kernel) ?_
      refine RD.opv (v' := .nil0) (opv_buildSlice0 rfl) rfl ?_
      refine RD.opv (v' := .d (.list (ints _))) (opv_move rfl) rfl ?_
      refine RD.opn (v' := .own 1 _) (O' := [_, _]) (opv_append_ints0 rfl rfl (by omega)) rfl rfl ⟨rfl, trivial⟩ ?_
      refine RD.opa (v' := .ref 0 1) (fun O' hk => opv_field_ref rfl (hk.1.trans rfl)) rfl ?_
      refine RD.opa (v' := .d (.int _ _)) (fun O' hk => opv_load_ref rfl (hk.1.trans rfl) rfl) rfl ?_
      refine RD.opa (v' := .d (.list (ints _))) (fun O' hk => opv_bs_int1 rfl ) rfl ?_
      refine RD.opn (v' := .own 1 _) (O' := [_, _]) (opv_append_ints rfl rfl rfl (by simp; omega)) rfl rfl ⟨rfl, trivial⟩ ?_
      refine RD.opv (v' := .own 1 _) (opv_assign rfl) rfl ?_
      refine RD.nil ?_
      refine thenQ_normal ?_
      refine Runs.has [(0, .own 1 _), (3, .ref 0 0), (4, .nil0)] ⟨rfl, rfl, rfl, trivial⟩ ?_
      refine Runs.seq ?_
      refine Runs.shut 0 rfl rfl ?_
      refine Runs.rseq ?_
      refine RO.opv (v' := .d (.int _ _)) (opv_assign rfl) rfl ?_
      refine RO.nil ?_
      refine Runs.block ?_
      refine Runs.loopC (X := (Nat × List Int)) (fun x => x.1 ≤ t.kids.length ∧ (partss (t.kids.drop x.1)).foldl addVar x.2 = t.parts.foldl addVar l ∧ x.2.length + sizes (t.kids.drop x.1) ≤ 2 ^ 28) (fun x => t.kids.length - x.1) [(3, .ref 0 0), (4, .nil0)] (fun x => [(0, .d (.list (ints x.2))), (5, .d (.int .i64 (x.1 : Nat)))]) [_, _] (fun x => []) (((0 : Nat), addVar l t)) ⟨rfl, rfl, trivial⟩ ⟨(by first | exact ints_eq (if_pos ⟨h1, by simpa using h2⟩).symm | exact ints_eq (if_neg (fun hh => hh.2 (by simpa using h2))).symm | exact ints_eq (if_neg (fun hh => h1 hh.1)).symm), rfl, trivial⟩ rfl ⟨Nat.zero_le _, by rw [List.drop_zero, t.parts_kids, List.foldl_cons], by have := addVar_len l t; show (addVar l t).length + _ ≤ _; simp only [List.drop_zero]; omega⟩ fun x hi => ?_
      refine Runs.seq ?_
      refine Runs.rseq ?_
      refine RO.opv (v' := .d (.int _ _)) (opv_move rfl) rfl ?_
      refine RO.opv (v' := .ref 0 3) (opv_field_ref rfl rfl) rfl ?_
      refine RO.opv (v' := .d (.list (encs _))) (opv_load_ref rfl rfl rfl) rfl ?_
      refine RO.opv (v' := .d (.int _ _)) (opv_len_terms rfl) rfl ?_
      refine RO.opc (opv_bin rfl rfl rfl) (fun h3 => ?_) (fun h3 => ?_)
      · try simp only [decide_eq_true_eq, decide_eq_false_iff_not, beq_iff_eq, beq_eq_false_iff_ne, bne_iff_ne, bne_eq_false_iff_eq, Int.not_lt, Int.not_le, ne_eq, Bool.not_eq_true', Bool.not_eq_false', gt_iff_lt, ge_iff_le] at h3
        have hk : x.1 < t.kids.length := by omega
        refine RO.nil ?_
        refine Runs.condT rfl ?_
        refine Runs.skip ?_
        refine thenQ_normal ?_
        refine Runs.has [(0, .d (.list (ints _))), (3, .ref 0 0), (4, .nil0), (5, .d (.int _ _))] ⟨rfl, rfl, rfl, rfl, trivial⟩ ?_
        refine Runs.seq ?_
        refine Runs.block ?_
        refine Runs.region ?_
        refine RO.opv (v' := .d (.list (ints _))) (opv_move rfl) rfl ?_
        refine RO.opv (v' := .ref 0 3) (opv_field_ref rfl rfl) rfl ?_
        refine RO.opv (v' := .d (.list (encs _))) (opv_load_ref rfl rfl rfl) rfl ?_
        refine RO.opv (v' := .d (.int _ _)) (opv_move rfl) rfl ?_
        refine RO.opv (v' := .d (.ptr _)) (opv_index_terms rfl rfl (by omega)) rfl ?_
        refine RO.opv (v' := .d (enc _)) (opv_load_pterm rfl) rfl ?_
        refine RO.opv (v' := .d (.list (ints _))) (opv_callF (ih t.kids[x.1] x.2 (by have := sizes_mem (List.getElem_mem hk); omega) (by have := bulks_mem (List.getElem_mem hk); omega) (by have := hi.2.2; rw [drop_get hk, sizes] at this; omega)) rfl rfl rfl trivial) rfl ?_
        refine RO.opv (v' := .d (.list (ints _))) (opv_assign rfl) rfl ?_
        refine RO.nil ?_
        refine blockQ_normal ?_
        refine thenQ_normal ?_
        refine Runs.has [(0, .d (.list (ints _))), (3, .ref 0 0), (4, .nil0), (5, .d (.int _ _))] ⟨rfl, rfl, rfl, rfl, trivial⟩ ?_
        refine Runs.region ?_
        refine RO.opv (v' := .d (.int _ _)) (opv_move rfl) rfl ?_
        refine RO.opv (v' := .d (.int _ _)) (opv_bin rfl rfl rfl) rfl ?_
        refine RO.opv (v' := .d (.int _ _)) (opv_assign rfl) rfl ?_
        refine RO.nil ?_
        refine thenQ_normal ?_
        refine ⟨(x.1 + 1, t.kids[x.1].parts.foldl addVar x.2), 2, (by rw [hK]; exact Nat.le_of_ble_eq_true rfl), ⟨rfl, rfl, trivial⟩, ⟨?_, ?_, trivial⟩, rfl, ?_, ?_⟩
        · rfl
        · refine int_eq ?_; rw [wrap64 (by omega) (by omega)]; omega
        · refine ⟨by show x.1 + 1 ≤ _; omega, ?_, ?_⟩
          · rw [← hi.2.1, drop_get hk, partss, List.foldl_append]
          · have h9 := hi.2.2; have h8 := vars_len t.kids[x.1].parts x.2; rw [parts_size] at h8; rw [drop_get hk, sizes] at h9; show (List.foldl addVar x.2 t.kids[x.1].parts).length + sizes (t.kids.drop (x.1 + 1)) ≤ 2 ^ 28; omega
        · show t.kids.length - (x.1 + 1) < _; omega
      · try simp only [decide_eq_true_eq, decide_eq_false_iff_not, beq_iff_eq, beq_eq_false_iff_ne, bne_iff_ne, bne_eq_false_iff_eq, Int.not_lt, Int.not_le, ne_eq, Bool.not_eq_true', Bool.not_eq_false', gt_iff_lt, ge_iff_le] at h3
        have hk : x.1 = t.kids.length := by omega
        refine RO.nil ?_
        refine Runs.condF rfl ?_
        refine Runs.exit ?_
        refine thenQ_exit ?_
        refine thenQ_exit ?_
        refine blockQ_here ?_
        refine thenQ_normal ?_
        refine Runs.has [(0, .d (.list (ints _))), (4, .nil0)] ⟨rfl, rfl, trivial⟩ ?_
        refine Runs.rseq ?_
        refine RO.opv (v' := .d (.list (ints _))) (opv_move rfl) rfl ?_
        refine RO.opv (v' := .d (.list (ints _))) (opv_assign rfl) rfl ?_
        refine RO.nil ?_
        refine Runs.ret ?_
        refine EndQ.tmp (.inr rfl) rfl rfl 0 (by exact Nat.le_refl _) (by exact Nat.zero_le _) trivial ⟨?_, rfl⟩
        refine ints_eq ?_; rw [← hi.2.1, hk, List.drop_length]; rfl
    · try simp only [decide_eq_true_eq, decide_eq_false_iff_not, beq_iff_eq, beq_eq_false_iff_ne, bne_iff_ne, bne_eq_false_iff_eq, Int.not_lt, Int.not_le, ne_eq, Bool.not_eq_true', Bool.not_eq_false', gt_iff_lt, ge_iff_le] at h2
      refine RO.nil ?_
      refine Runs.condF rfl ?_
      refine Runs.skip ?_
      refine thenQ_normal ?_
      refine Runs.has [(0, .d (.list (ints _))), (3, .ref 0 0), (4, .nil0)] ⟨rfl, rfl, rfl, trivial⟩ ?_
      refine Runs.seq ?_
      refine Runs.rseq ?_
      refine RO.opv (v' := .d (.int _ _)) (opv_assign rfl) rfl ?_
      refine RO.nil ?_
      refine Runs.block ?_
      refine Runs.loopC (X := (Nat × List Int)) (fun x => x.1 ≤ t.kids.length ∧ (partss (t.kids.drop x.1)).foldl addVar x.2 = t.parts.foldl addVar l ∧ x.2.length + sizes (t.kids.drop x.1) ≤ 2 ^ 28) (fun x => t.kids.length - x.1) [(3, .ref 0 0), (4, .nil0)] (fun x => [(0, .d (.list (ints x.2))), (5, .d (.int .i64 (x.1 : Nat)))]) [_] (fun x => []) (((0 : Nat), addVar l t)) ⟨rfl, rfl, trivial⟩ ⟨(by first | exact ints_eq (if_pos ⟨h1, by simpa using h2⟩).symm | exact ints_eq (if_neg (fun hh => hh.2 (by simpa using h2))).symm | exact ints_eq (if_neg (fun hh => h1 hh.1)).symm), rfl, trivial⟩ rfl ⟨Nat.zero_le _, by rw [List.drop_zero, t.parts_kids, List.foldl_cons], by have := addVar_len l t; show (addVar l t).length + _ ≤ _; simp only [List.drop_zero]; omega⟩ fun x hi => ?_
      refine Runs.seq ?_
      refine Runs.rseq ?_
      refine RO.opv (v' := .d (.int _ _)) (opv_move rfl) rfl ?_
      refine RO.opv (v' := .ref 0 3) (opv_field_ref rfl rfl) rfl ?_
      refine RO.opv (v' := .d (.list (encs _))) (opv_load_ref rfl rfl rfl) rfl ?_
      refine RO.opv (v' := .d (.int _ _)) (opv_len_terms rfl) rfl ?_
      refine RO.opc (opv_bin rfl rfl rfl) (fun h4 => ?_) (fun h4 => ?_)
      · try simp only [decide_eq_true_eq, decide_eq_false_iff_not, beq_iff_eq, beq_eq_false_iff_ne, bne_iff_ne, bne_eq_false_iff_eq, Int.not_lt, Int.not_le, ne_eq, Bool.not_eq_true', Bool.not_eq_false', gt_iff_lt, ge_iff_le] at h4
        have hk : x.1 < t.kids.length := by omega
        refine RO.nil ?_
        refine Runs.condT rfl ?_
        refine Runs.skip ?_
        refine thenQ_normal ?_
        refine Runs.has [(0, .d (.list (ints _))), (3, .ref 0 0), (4, .nil0), (5, .d (.int _ _))] ⟨rfl, rfl, rfl, rfl, trivial⟩ ?_
        refine Runs.seq ?_
        refine Runs.block ?_
        refine Runs.region ?_
        refine RO.opv (v' := .d (.list (ints _))) (opv_move rfl) rfl ?_
        refine RO.opv (v' := .ref 0 3) (opv_field_ref rfl rfl) rfl ?_
        refine RO.opv (v' := .d (.list (encs _))) (opv_load_ref rfl rfl rfl) rfl ?_
        refine RO.opv (v' := .d (.int _ _)) (opv_move rfl) rfl ?_
        refine RO.opv (v' := .d (.ptr _)) (opv_index_terms rfl rfl (by omega)) rfl ?_
        refine RO.opv (v' := .d (enc _)) (opv_load_pterm rfl) rfl ?_
        refine RO.opv (v' := .d (.list (ints _))) (opv_callF (ih t.kids[x.1] x.2 (by have := sizes_mem (List.getElem_mem hk); omega) (by have := bulks_mem (List.getElem_mem hk); omega) (by have := hi.2.2; rw [drop_get hk, sizes] at this; omega)) rfl rfl rfl trivial) rfl ?_
        refine RO.opv (v' := .d (.list (ints _))) (opv_assign rfl) rfl ?_
        refine RO.nil ?_
        refine blockQ_normal ?_
        refine thenQ_normal ?_
        refine Runs.has [(0, .d (.list (ints _))), (3, .ref 0 0), (4, .nil0), (5, .d (.int _ _))] ⟨rfl, rfl, rfl, rfl, trivial⟩ ?_
        refine Runs.region ?_
        refine RO.opv (v' := .d (.int _ _)) (opv_move rfl) rfl ?_
        refine RO.opv (v' := .d (.int _ _)) (opv_bin rfl rfl rfl) rfl ?_
        refine RO.opv (v' := .d (.int _ _)) (opv_assign rfl) rfl ?_
        refine RO.nil ?_
        refine thenQ_normal ?_
        refine ⟨(x.1 + 1, t.kids[x.1].parts.foldl addVar x.2), 1, (by rw [hK]; exact Nat.le_of_ble_eq_true rfl), ⟨rfl, rfl, trivial⟩, ⟨?_, ?_, trivial⟩, rfl, ?_, ?_⟩
        · rfl
        · refine int_eq ?_; rw [wrap64 (by omega) (by omega)]; omega
        · refine ⟨by show x.1 + 1 ≤ _; omega, ?_, ?_⟩
          · rw [← hi.2.1, drop_get hk, partss, List.foldl_append]
          · have h9 := hi.2.2; have h8 := vars_len t.kids[x.1].parts x.2; rw [parts_size] at h8; rw [drop_get hk, sizes] at h9; show (List.foldl addVar x.2 t.kids[x.1].parts).length + sizes (t.kids.drop (x.1 + 1)) ≤ 2 ^ 28; omega
        · show t.kids.length - (x.1 + 1) < _; omega
      · try simp only [decide_eq_true_eq, decide_eq_false_iff_not, beq_iff_eq, beq_eq_false_iff_ne, bne_iff_ne, bne_eq_false_iff_eq, Int.not_lt, Int.not_le, ne_eq, Bool.not_eq_true', Bool.not_eq_false', gt_iff_lt, ge_iff_le] at h4
        have hk : x.1 = t.kids.length := by omega
        refine RO.nil ?_
        refine Runs.condF rfl ?_
        refine Runs.exit ?_
        refine thenQ_exit ?_
        refine thenQ_exit ?_
        refine blockQ_here ?_
        refine thenQ_normal ?_
        refine Runs.has [(0, .d (.list (ints _))), (4, .nil0)] ⟨rfl, rfl, trivial⟩ ?_
        refine Runs.rseq ?_
        refine RO.opv (v' := .d (.list (ints _))) (opv_move rfl) rfl ?_
        refine RO.opv (v' := .d (.list (ints _))) (opv_assign rfl) rfl ?_
        refine RO.nil ?_
        refine Runs.ret ?_
        refine EndQ.tmp (.inr rfl) rfl rfl 0 (by exact Nat.le_refl _) (by exact Nat.zero_le _) trivial ⟨?_, rfl⟩
        refine ints_eq ?_; rw [← hi.2.1, hk, List.drop_length]; rfl
  · try simp only [decide_eq_true_eq, decide_eq_false_iff_not, beq_iff_eq, beq_eq_false_iff_ne, bne_iff_ne, bne_eq_false_iff_eq, Int.not_lt, Int.not_le, ne_eq, Bool.not_eq_true', Bool.not_eq_false', gt_iff_lt, ge_iff_le] at h1
    refine RO.off rfl ?_
    refine RO.off rfl ?_
    refine RO.off rfl ?_
    refine RO.off rfl ?_
    refine RO.off rfl ?_
    refine RO.opv (v' := .d (.bool false)) (opv_pick rfl rfl) rfl ?_
    refine RO.nil ?_
    refine Runs.condF rfl ?_
    refine Runs.skip ?_
    refine thenQ_normal ?_
    refine Runs.has [(0, .d (.list (ints _))), (3, .ref 0 0), (4, .nil0)] ⟨rfl, rfl, rfl, trivial⟩ ?_
    refine Runs.seq ?_
    refine Runs.rseq ?_
    refine RO.opv (v' := .d (.int _ _)) (opv_assign rfl) rfl ?_
    refine RO.nil ?_
    refine Runs.block ?_
    refine Runs.loopC (X := (Nat × List Int)) (fun x => x.1 ≤ t.kids.length ∧ (partss (t.kids.drop x.1)).foldl addVar x.2 = t.parts.foldl addVar l ∧ x.2.length + sizes (t.kids.drop x.1) ≤ 2 ^ 28) (fun x => t.kids.length - x.1) [(3, .ref 0 0), (4, .nil0)] (fun x => [(0, .d (.list (ints x.2))), (5, .d (.int .i64 (x.1 : Nat)))]) [_] (fun x => []) (((0 : Nat), addVar l t)) ⟨rfl, rfl, trivial⟩ ⟨(by first | exact ints_eq (if_pos ⟨h1, by simpa using h2⟩).symm | exact ints_eq (if_neg (fun hh => hh.2 (by simpa using h2))).symm | exact ints_eq (if_neg (fun hh => h1 hh.1)).symm), rfl, trivial⟩ rfl ⟨Nat.zero_le _, by rw [List.drop_zero, t.parts_kids, List.foldl_cons], by have := addVar_len l t; show (addVar l t).length + _ ≤ _; simp only [List.drop_zero]; omega⟩ fun x hi => ?_
    refine Runs.seq ?_
    refine Runs.rseq ?_
    refine RO.opv (v' := .d (.int _ _)) (opv_move rfl) rfl ?_
    refine RO.opv (v' := .ref 0 3) (opv_field_ref rfl rfl) rfl ?_
    refine RO.opv (v' := .d (.list (encs _))) (opv_load_ref rfl rfl rfl) rfl ?_
    refine RO.opv (v' := .d (.int _ _)) (opv_len_terms rfl) rfl ?_
    refine RO.opc (opv_bin rfl rfl rfl) (fun h5 => ?_) (fun h5 => ?_)
    · try simp only [decide_eq_true_eq, decide_eq_false_iff_not, beq_iff_eq, beq_eq_false_iff_ne, bne_iff_ne, bne_eq_false_iff_eq, Int.not_lt, Int.not_le, ne_eq, Bool.not_eq_true', Bool.not_eq_false', gt_iff_lt, ge_iff_le] at h5
      have hk : x.1 < t.kids.length := by omega
      refine RO.nil ?_
      refine Runs.condT rfl ?_
      refine Runs.skip ?_
      refine thenQ_normal ?_
      refine Runs.has [(0, .d (.list (ints _))), (3, .ref 0 0), (4, .nil0), (5, .d (.int _ _))] ⟨rfl, rfl, rfl, rfl, trivial⟩ ?_
      refine Runs.seq ?_
      refine Runs.block ?_
      refine Runs.region ?_
      refine RO.opv (v' := .d (.list (ints _))) (opv_move rfl) rfl ?_
      refine RO.opv (v' := .ref 0 3) (opv_field_ref rfl rfl) rfl ?_
      refine RO.opv (v' := .d (.list (encs _))) (opv_load_ref rfl rfl rfl) rfl ?_
      refine RO.opv (v' := .d (.int _ _)) (opv_move rfl) rfl ?_
      refine RO.opv (v' := .d (.ptr _)) (opv_index_terms rfl rfl (by omega)) rfl ?_
      refine RO.opv (v' := .d (enc _)) (opv_load_pterm rfl) rfl ?_
      refine RO.opv (v' := .d (.list (ints _))) (opv_callF (ih t.kids[x.1] x.2 (by have := sizes_mem (List.getElem_mem hk); omega) (by have := bulks_mem (List.getElem_mem hk); omega) (by have := hi.2.2; rw [drop_get hk, sizes] at this; omega)) rfl rfl rfl trivial) rfl ?_
      refine RO.opv (v' := .d (.list (ints _))) (opv_assign rfl) rfl ?_
      refine RO.nil ?_
      refine blockQ_normal ?_
      refine thenQ_normal ?_
      refine Runs.has [(0, .d (.list (ints _))), (3, .ref 0 0), (4, .nil0), (5, .d (.int _ _))] ⟨rfl, rfl, rfl, rfl, trivial⟩ ?_
      refine Runs.region ?_
      refine RO.opv (v' := .d (.int _ _)) (opv_move rfl) rfl ?_
      refine RO.opv (v' := .d (.int _ _)) (opv_bin rfl rfl rfl) rfl ?_
      refine RO.opv (v' := .d (.int _ _)) (opv_assign rfl) rfl ?_
      refine RO.nil ?_
      refine thenQ_normal ?_
      refine ⟨(x.1 + 1, t.kids[x.1].parts.foldl addVar x.2), 1, (by rw [hK]; exact Nat.le_of_ble_eq_true rfl), ⟨rfl, rfl, trivial⟩, ⟨?_, ?_, trivial⟩, rfl, ?_, ?_⟩
      · rfl
      · refine int_eq ?_; rw [wrap64 (by omega) (by omega)]; omega
      · refine ⟨by show x.1 + 1 ≤ _; omega, ?_, ?_⟩
        · rw [← hi.2.1, drop_get hk, partss, List.foldl_append]
        · have h9 := hi.2.2; have h8 := vars_len t.kids[x.1].parts x.2; rw [parts_size] at h8; rw [drop_get hk, sizes] at h9; show (List.foldl addVar x.2 t.kids[x.1].parts).length + sizes (t.kids.drop (x.1 + 1)) ≤ 2 ^ 28; omega
      · show t.kids.length - (x.1 + 1) < _; omega
    · try simp only [decide_eq_true_eq, decide_eq_false_iff_not, beq_iff_eq, beq_eq_false_iff_ne, bne_iff_ne, bne_eq_false_iff_eq, Int.not_lt, Int.not_le, ne_eq, Bool.not_eq_true', Bool.not_eq_false', gt_iff_lt, ge_iff_le] at h5
      have hk : x.1 = t.kids.length := by omega
      refine RO.nil ?_
      refine Runs.condF rfl ?_
      refine Runs.exit ?_
      refine thenQ_exit ?_
      refine thenQ_exit ?_
      refine blockQ_here ?_
      refine thenQ_normal ?_
      refine Runs.has [(0, .d (.list (ints _))), (4, .nil0)] ⟨rfl, rfl, trivial⟩ ?_
      refine Runs.rseq ?_
      refine RO.opv (v' := .d (.list (ints _))) (opv_move rfl) rfl ?_
      refine RO.opv (v' := .d (.list (ints _))) (opv_assign rfl) rfl ?_
      refine RO.nil ?_
      refine Runs.ret ?_
      refine EndQ.tmp (.inr rfl) rfl rfl 0 (by exact Nat.le_refl _) (by exact Nat.zero_le _) trivial ⟨?_, rfl⟩
      refine ints_eq ?_; rw [← hi.2.1, hk, List.drop_length]; rfl
theorem rvars_fn (t : Term) (hb : t.bulk ≤ 2 ^ 28) : Fn Try.prog 27 [.d (enc t)] [] (.d (.list (ints t.vars))) [] := by
  refine Does.run Try.func27 rfl Try.ntmps27 rfl fun K hK => ?_
  refine Runs.rseq ?_
  refine RO.opn (v' := .ref 0 0) (O' := [_]) (opv_box_term rfl) rfl rfl ?_
  refine RO.opv (v' := .nil0) (opv_assign rfl) rfl ?_
  refine RO.nil ?_
  refine Runs.has [(1, .ref 0 0), (2, .nil0)] ⟨rfl, rfl, trivial⟩ ?_
  refine Runs.rseq ?_
  refine RO.opv (v' := .d (enc _)) (opv_load_term rfl rfl rfl) rfl ?_
  refine RO.opv (v' := .d (.list (ints _))) (opv_callZ (gather_aux t.size t [] (Nat.le_refl _) hb (by have := t.size_bulk; simp; omega)) rfl rfl rfl trivial) rfl ?_
  refine RO.opv (v' := .d (.list (ints _))) (opv_assign rfl) rfl ?_
  refine RO.nil ?_
  refine Runs.ret ?_
  refine EndQ.tmp (.inr rfl) rfl rfl 0 (by exact Nat.le_refl _) (by exact Nat.zero_le _) trivial ⟨?_, rfl⟩
  rfl
theorem may_aux  : ∀ (m : Nat) (t : Term) (lv : Int), t.size ≤ m → t.bulk ≤ 2 ^ 28 → Fn Try.prog 36 [.d (enc t), .d (.int .i64 lv)] [] (.d (.bool (t.parts.all (alone lv)))) [] := by
  intro m
  induction m with
  | zero => intro t lv h; have := t.size_kids; omega
  | succ m ih =>
  intro t lv hm hb
  have e95 : decide (t.num < 4096) = decide (t.num ≤ 4095) := decide_eq_decide.2 ⟨fun h => by omega, fun h => by omega⟩
  have hS := t.size_kids
  have hU := t.bulk_kids
  have hL := bulks_len t.kids
  refine Does.run Try.func36 rfl Try.ntmps36 rfl fun K hK => ?_
  refine Runs.rseq ?_
  refine RO.opn (v' := .ref 0 0) (O' := [_]) (opv_box_term rfl) rfl rfl ?_
  refine RO.opv (v' := .d (.bool false)) (opv_assign rfl) rfl ?_
  refine RO.nil ?_
  refine Runs.has [(1, .d (.int _ _)), (2, .ref 0 0), (4, .d (.bool false))] ⟨rfl, rfl, rfl, trivial⟩ ?_
  refine Runs.rseq ?_
  refine RO.opv (v' := .ref 0 3) (opv_field_ref rfl rfl) rfl ?_
  refine RO.opv (v' := .d (.list (encs _))) (opv_load_ref rfl rfl rfl) rfl ?_
  refine RO.opv (v' := .d (.int _ _)) (opv_len_terms rfl) rfl ?_
  refine RO.opv (v' := .d (.int _ _)) (opv_assign rfl) rfl ?_
  refine RO.nil ?_
  refine Runs.has [(1, .d (.int _ _)), (2, .ref 0 0), (4, .d (.bool false)), (5, .d (.int _ _))] ⟨rfl, rfl, rfl, rfl, trivial⟩ ?_
  refine Runs.rseq ?_
  refine RO.opv (v' := .d (.bool false)) (opv_assign rfl) rfl ?_
  refine RO.nil ?_
  refine Runs.seq ?_
  refine Runs.rseq ?_
  refine RO.opv (v' := .ref 0 0) (opv_field_ref rfl rfl) rfl ?_
  refine RO.opv (v' := .d (.int _ _)) (opv_load_ref rfl rfl rfl) rfl ?_
  refine RO.nil ?_
  refine Runs.block ?_
  refine Runs.has [(1, .d (.int _ _)), (2, .ref 0 0), (4, .d (.bool false)), (5, .d (.int _ _)), (6, .d (.bool false)), (12, .d (.int _ _))] ⟨rfl, rfl, rfl, rfl, rfl, rfl, trivial⟩ ?_
  refine Runs.rseq ?_
  refine RO.opv (v' := .d (.bool _)) (opv_bin rfl rfl rfl) rfl ?_
  refine RO.opc (opv_assign rfl) (fun h1 => ?_) (fun h1 => ?_)
  · skip
    refine RO.nil ?_
    refine Runs.condT rfl ?_
    refine Runs.has [(1, .d (.int _ _)), (2, .ref 0 0), (4, .d (.bool false)), (5, .d (.int _ _)), (6, .d (.bool false))] ⟨rfl, rfl, rfl, rfl, rfl, trivial⟩ ?_
    refine Runs.region ?_
    refine RO.opv (v' := .ref 0 1) (opv_field_ref rfl rfl) rfl ?_
    refine RO.opv (v' := .d (.int _ _)) (opv_load_ref rfl rfl rfl) rfl ?_
    refine RO.opv (v' := .d (.bool _)) (opv_bin rfl rfl rfl) rfl ?_
    refine RO.opc (opv_move rfl) (fun h2 => ?_) (fun h2 => ?_)
    · skip
      refine RO.opgv (v' := .ref 0 1) rfl (opv_field_ref rfl rfl) rfl ?_
      refine RO.opgv (v' := .d (.int _ _)) rfl (opv_load_ref rfl rfl rfl) rfl ?_
      refine RO.opgv (v' := .d (.bool _)) rfl (opv_bin rfl rfl rfl) rfl ?_
      refine RO.opv (v' := .d (.bool _)) (opv_pick rfl rfl) rfl ?_
      refine RO.opc (opv_move rfl) (fun h3 => ?_) (fun h3 => ?_)
      · skip
        refine RO.opgv (v' := .ref 0 2) rfl (opv_field_ref rfl rfl) rfl ?_
        refine RO.opgv (v' := .d (.str _)) rfl (opv_load_ref rfl rfl rfl) rfl ?_
        refine RO.opgv (v' := .d (.bool _)) rfl (opv_bin rfl rfl rfl) rfl ?_
        refine RO.opv (v' := .d (.bool _)) (opv_pick rfl rfl) rfl ?_
        refine RO.opc (opv_move rfl) (fun h4 => ?_) (fun h4 => ?_)
        · skip
          refine RO.opgv (v' := .d (.int _ _)) rfl (opv_move rfl) rfl ?_
          refine RO.opgv (v' := .d (.bool _)) rfl (opv_bin rfl rfl rfl) rfl ?_
          refine RO.opv (v' := .d (.bool _)) (opv_pick rfl rfl) rfl ?_
          refine RO.opv (v' := .d (.bool _)) (opv_assign rfl) rfl ?_
          refine RO.nil ?_
          refine blockQ_normal ?_
          refine thenQ_normal ?_
          refine Runs.has [(1, .d (.int _ _)), (2, .ref 0 0), (4, .d (.bool false)), (5, .d (.int _ _)), (6, .d (.bool _))] ⟨rfl, rfl, rfl, rfl, rfl, trivial⟩ ?_
          refine Runs.seq ?_
          refine Runs.rseq ?_
          refine RO.opv (v' := .d (.int _ _)) (opv_assign rfl) rfl ?_
          refine RO.nil ?_
          refine Runs.block ?_
          refine Runs.loopC (X := (Nat × Bool)) (fun x => x.1 ≤ t.kids.length ∧ (x.2 && (partss (t.kids.drop x.1)).all (alone lv)) = t.parts.all (alone lv)) (fun x => t.kids.length - x.1) [(1, .d (.int _ _)), (2, .ref 0 0), (4, .d (.bool false)), (5, .d (.int _ _))] (fun x => [(6, .d (.bool x.2)), (7, .d (.int .i64 (x.1 : Nat)))]) [_] (fun x => []) (((0 : Nat), alone lv t)) ⟨rfl, rfl, rfl, rfl, trivial⟩ ⟨(by refine bool_eq ?_; first | (simp only [alone, *, cond_true, cond_false, Bool.true_and, Bool.false_and]; done) | (simp only [alone, *, cond_true, cond_false, Bool.true_and, Bool.false_and]; rw [List.getElem?_eq_getElem (by omega)]; rfl)), rfl, trivial⟩ rfl ⟨Nat.zero_le _, by rw [List.drop_zero, t.parts_kids, List.all_cons]⟩ fun x hi => ?_
          refine Runs.seq ?_
          refine Runs.rseq ?_
          refine RO.opv (v' := .d (.int _ _)) (opv_move rfl) rfl ?_
          refine RO.opv (v' := .d (.int _ _)) (opv_move rfl) rfl ?_
          refine RO.opv (v' := .d (.bool _)) (opv_bin rfl rfl rfl) rfl ?_
          refine RO.opc (opv_move rfl) (fun h5 => ?_) (fun h5 => ?_)
          · skip
            have hk : x.1 < t.kids.length := by have := of_decide_eq_true h5; omega
            refine RO.opgv (v' := .d (.bool _)) rfl (opv_move rfl) rfl ?_
            refine RO.opc (opv_pick rfl rfl) (fun h6 => ?_) (fun h6 => ?_)
            · skip
              have hf : x.2 = true := h6
              refine RO.nil ?_
              refine Runs.condT rfl ?_
              refine Runs.skip ?_
              refine thenQ_normal ?_
              refine Runs.has [(1, .d (.int _ _)), (2, .ref 0 0), (4, .d (.bool false)), (5, .d (.int _ _)), (6, .d (.bool _)), (7, .d (.int _ _))] ⟨rfl, rfl, rfl, rfl, rfl, rfl, trivial⟩ ?_
              refine Runs.seq ?_
              refine Runs.block ?_
              refine Runs.region ?_
              refine RO.opv (v' := .ref 0 3) (opv_field_ref rfl rfl) rfl ?_
              refine RO.opv (v' := .d (.list (encs _))) (opv_load_ref rfl rfl rfl) rfl ?_
              refine RO.opv (v' := .d (.int _ _)) (opv_move rfl) rfl ?_
              refine RO.opv (v' := .d (.ptr _)) (opv_index_terms rfl rfl (by omega)) rfl ?_
              refine RO.opv (v' := .d (enc _)) (opv_load_pterm rfl) rfl ?_
              refine RO.opv (v' := .d (.int _ _)) (opv_move rfl) rfl ?_
              refine RO.opv (v' := .d (.bool _)) (opv_callF (ih t.kids[x.1] lv (by have := sizes_mem (List.getElem_mem hk); omega) (by have := bulks_mem (List.getElem_mem hk); omega)) rfl rfl rfl trivial) rfl ?_
              refine RO.opv (v' := .d (.bool _)) (opv_assign rfl) rfl ?_
              refine RO.nil ?_
              refine blockQ_normal ?_
              refine thenQ_normal ?_
              refine Runs.has [(1, .d (.int _ _)), (2, .ref 0 0), (4, .d (.bool false)), (5, .d (.int _ _)), (6, .d (.bool _)), (7, .d (.int _ _))] ⟨rfl, rfl, rfl, rfl, rfl, rfl, trivial⟩ ?_
              refine Runs.region ?_
              refine RO.opv (v' := .d (.int _ _)) (opv_move rfl) rfl ?_
              refine RO.opv (v' := .d (.int _ _)) (opv_bin rfl rfl rfl) rfl ?_
              refine RO.opv (v' := .d (.int _ _)) (opv_assign rfl) rfl ?_
              refine RO.nil ?_
              refine thenQ_normal ?_
              refine ⟨(x.1 + 1, t.kids[x.1].parts.all (alone lv)), 1, (by rw [hK]; exact Nat.le_of_ble_eq_true rfl), ⟨rfl, rfl, rfl, rfl, trivial⟩, ⟨?_, ?_, trivial⟩, rfl, ?_, ?_⟩
              · rfl
              · refine int_eq ?_; rw [wrap64 (by omega) (by omega)]; omega
              · refine ⟨by show x.1 + 1 ≤ _; omega, ?_⟩
                rw [← hi.2, hf, drop_get hk, partss, List.all_append, Bool.true_and]
              · show t.kids.length - (x.1 + 1) < _; omega
            · skip
              have hf : x.2 = false := h6
              refine RO.nil ?_
              refine Runs.condF rfl ?_
              refine Runs.exit ?_
              refine thenQ_exit ?_
              refine thenQ_exit ?_
              refine blockQ_here ?_
              refine thenQ_normal ?_
              refine Runs.has [(4, .d (.bool false)), (6, .d (.bool _))] ⟨rfl, rfl, trivial⟩ ?_
              refine Runs.rseq ?_
              refine RO.opv (v' := .d (.bool _)) (opv_move rfl) rfl ?_
              refine RO.opv (v' := .d (.bool _)) (opv_assign rfl) rfl ?_
              refine RO.nil ?_
              refine Runs.ret ?_
              refine EndQ.tmp (.inr rfl) rfl rfl 0 (by exact Nat.le_refl _) (by exact Nat.zero_le _) trivial ⟨?_, rfl⟩
              refine bool_eq ?_
              first
                | (rw [← hi.2, hf, Bool.false_and]; done)
                | (rw [← hi.2, hk, List.drop_length]; simp [partss])
          · skip
            have hk : x.1 = t.kids.length := by have := of_decide_eq_false h5; omega
            refine RO.off rfl ?_
            refine RO.opv (v' := .d (.bool false)) (opv_pick rfl rfl) rfl ?_
            refine RO.nil ?_
            refine Runs.condF rfl ?_
            refine Runs.exit ?_
            refine thenQ_exit ?_
            refine thenQ_exit ?_
            refine blockQ_here ?_
            refine thenQ_normal ?_
            refine Runs.has [(4, .d (.bool false)), (6, .d (.bool _))] ⟨rfl, rfl, trivial⟩ ?_
            refine Runs.rseq ?_
            refine RO.opv (v' := .d (.bool _)) (opv_move rfl) rfl ?_
            refine RO.opv (v' := .d (.bool _)) (opv_assign rfl) rfl ?_
            refine RO.nil ?_
            refine Runs.ret ?_
            refine EndQ.tmp (.inr rfl) rfl rfl 0 (by exact Nat.le_refl _) (by exact Nat.zero_le _) trivial ⟨?_, rfl⟩
            refine bool_eq ?_
            first
              | (rw [← hi.2, hf, Bool.false_and]; done)
              | (rw [← hi.2, hk, List.drop_length]; simp [partss])
        · skip
          refine RO.off rfl ?_
          refine RO.off rfl ?_
          refine RO.opv (v' := .d (.bool false)) (opv_pick rfl rfl) rfl ?_
          refine RO.opv (v' := .d (.bool false)) (opv_assign rfl) rfl ?_
          refine RO.nil ?_
          refine blockQ_normal ?_
          refine thenQ_normal ?_
          refine Runs.has [(1, .d (.int _ _)), (2, .ref 0 0), (4, .d (.bool false)), (5, .d (.int _ _)), (6, .d (.bool false))] ⟨rfl, rfl, rfl, rfl, rfl, trivial⟩ ?_
          refine Runs.seq ?_
          refine Runs.rseq ?_
          refine RO.opv (v' := .d (.int _ _)) (opv_assign rfl) rfl ?_
          refine RO.nil ?_
          refine Runs.block ?_
          refine Runs.loopC (X := (Nat × Bool)) (fun x => x.1 ≤ t.kids.length ∧ (x.2 && (partss (t.kids.drop x.1)).all (alone lv)) = t.parts.all (alone lv)) (fun x => t.kids.length - x.1) [(1, .d (.int _ _)), (2, .ref 0 0), (4, .d (.bool false)), (5, .d (.int _ _))] (fun x => [(6, .d (.bool x.2)), (7, .d (.int .i64 (x.1 : Nat)))]) [_] (fun x => []) (((0 : Nat), alone lv t)) ⟨rfl, rfl, rfl, rfl, trivial⟩ ⟨(by refine bool_eq ?_; first | (simp only [alone, *, cond_true, cond_false, Bool.true_and, Bool.false_and]; done) | (simp only [alone, *, cond_true, cond_false, Bool.true_and, Bool.false_and]; rw [List.getElem?_eq_getElem (by omega)]; rfl)), rfl, trivial⟩ rfl ⟨Nat.zero_le _, by rw [List.drop_zero, t.parts_kids, List.all_cons]⟩ fun x hi => ?_
          refine Runs.seq ?_
          refine Runs.rseq ?_
          refine RO.opv (v' := .d (.int _ _)) (opv_move rfl) rfl ?_
          refine RO.opv (v' := .d (.int _ _)) (opv_move rfl) rfl ?_
          refine RO.opv (v' := .d (.bool _)) (opv_bin rfl rfl rfl) rfl ?_
          refine RO.opc (opv_move rfl) (fun h7 => ?_) (fun h7 => ?_)
          · skip
            have hk : x.1 < t.kids.length := by have := of_decide_eq_true h7; omega
            refine RO.opgv (v' := .d (.bool _)) rfl (opv_move rfl) rfl ?_
            refine RO.opc (opv_pick rfl rfl) (fun h8 => ?_) (fun h8 => ?_)
            · skip
              have hf : x.2 = true := h8
              refine RO.nil ?_
              refine Runs.condT rfl ?_
              refine Runs.skip ?_
              refine thenQ_normal ?_
              refine Runs.has [(1, .d (.int _ _)), (2, .ref 0 0), (4, .d (.bool false)), (5, .d (.int _ _)), (6, .d (.bool _)), (7, .d (.int _ _))] ⟨rfl, rfl, rfl, rfl, rfl, rfl, trivial⟩ ?_
              refine Runs.seq ?_
              refine Runs.block ?_
              refine Runs.region ?_
              refine RO.opv (v' := .ref 0 3) (opv_field_ref rfl rfl) rfl ?_
              refine RO.opv (v' := .d (.list (encs _))) (opv_load_ref rfl rfl rfl) rfl ?_
              refine RO.opv (v' := .d (.int _ _)) (opv_move rfl) rfl ?_
              refine RO.opv (v' := .d (.ptr _)) (opv_index_terms rfl rfl (by omega)) rfl ?_
              refine RO.opv (v' := .d (enc _)) (opv_load_pterm rfl) rfl ?_
              refine RO.opv (v' := .d (.int _ _)) (opv_move rfl) rfl ?_
              refine RO.opv (v' := .d (.bool _)) (opv_callF (ih t.kids[x.1] lv (by have := sizes_mem (List.getElem_mem hk); omega) (by have := bulks_mem (List.getElem_mem hk); omega)) rfl rfl rfl trivial) rfl ?_
              refine RO.opv (v' := .d (.bool _)) (opv_assign rfl) rfl ?_
              refine RO.nil ?_
              refine blockQ_normal ?_
              refine thenQ_normal ?_
              refine Runs.has [(1, .d (.int _ _)), (2, .ref 0 0), (4, .d (.bool false)), (5, .d (.int _ _)), (6, .d (.bool _)), (7, .d (.int _ _))] ⟨rfl, rfl, rfl, rfl, rfl, rfl, trivial⟩ ?_
              refine Runs.region ?_
              refine RO.opv (v' := .d (.int _ _)) (opv_move rfl) rfl ?_
              refine RO.opv (v' := .d (.int _ _)) (opv_bin rfl rfl rfl) rfl ?_
              refine RO.opv (v' := .d (.int _ _)) (opv_assign rfl) rfl ?_
              refine RO.nil ?_
              refine thenQ_normal ?_
              refine ⟨(x.1 + 1, t.kids[x.1].parts.all (alone lv)), 1, (by rw [hK]; exact Nat.le_of_ble_eq_true rfl), ⟨rfl, rfl, rfl, rfl, trivial⟩, ⟨?_, ?_, trivial⟩, rfl, ?_, ?_⟩
              · rfl
              · refine int_eq ?_; rw [wrap64 (by omega) (by omega)]; omega
              · refine ⟨by show x.1 + 1 ≤ _; omega, ?_⟩
                rw [← hi.2, hf, drop_get hk, partss, List.all_append, Bool.true_and]
              · show t.kids.length - (x.1 + 1) < _; omega
            · skip
              have hf : x.2 = false := h8
              refine RO.nil ?_
              refine Runs.condF rfl ?_
              refine Runs.exit ?_
              refine thenQ_exit ?_
              refine thenQ_exit ?_
              refine blockQ_here ?_
              refine thenQ_normal ?_
              refine Runs.has [(4, .d (.bool false)), (6, .d (.bool _))] ⟨rfl, rfl, trivial⟩ ?_
              refine Runs.rseq ?_
              refine RO.opv (v' := .d (.bool _)) (opv_move rfl) rfl ?_
              refine RO.opv (v' := .d (.bool _)) (opv_assign rfl) rfl ?_
              refine RO.nil ?_
              refine Runs.ret ?_
              refine EndQ.tmp (.inr rfl) rfl rfl 0 (by exact Nat.le_refl _) (by exact Nat.zero_le _) trivial ⟨?_, rfl⟩
              refine bool_eq ?_
              first
                | (rw [← hi.2, hf, Bool.false_and]; done)
                | (rw [← hi.2, hk, List.drop_length]; simp [partss])
          · skip
            have hk : x.1 = t.kids.length := by have := of_decide_eq_false h7; omega
            refine RO.off rfl ?_
            refine RO.opv (v' := .d (.bool false)) (opv_pick rfl rfl) rfl ?_
            refine RO.nil ?_
            refine Runs.condF rfl ?_
            refine Runs.exit ?_
            refine thenQ_exit ?_
            refine thenQ_exit ?_
            refine blockQ_here ?_
            refine thenQ_normal ?_
            refine Runs.has [(4, .d (.bool false)), (6, .d (.bool _))] ⟨rfl, rfl, trivial⟩ ?_
            refine Runs.rseq ?_
            refine RO.opv (v' := .d (.bool _)) (opv_move rfl) rfl ?_
            refine RO.opv (v' := .d (.bool _)) (opv_assign rfl) rfl ?_
            refine RO.nil ?_
            refine Runs.ret ?_
            refine EndQ.tmp (.inr rfl) rfl rfl 0 (by exact Nat.le_refl _) (by exact Nat.zero_le _) trivial ⟨?_, rfl⟩
            refine bool_eq ?_
            first
              | (rw [← hi.2, hf, Bool.false_and]; done)
              | (rw [← hi.2, hk, List.drop_length]; simp [partss])
      · skip
        refine RO.off rfl ?_
        refine RO.off rfl ?_
        refine RO.off rfl ?_
        refine RO.opv (v' := .d (.bool false)) (opv_pick rfl rfl) rfl ?_
        refine RO.opv (v' := .d (.bool false)) (opv_move rfl) rfl ?_
        refine RO.off rfl ?_
        refine RO.off rfl ?_
        refine RO.opv (v' := .d (.bool false)) (opv_pick rfl rfl) rfl ?_
        refine RO.opv (v' := .d (.bool false)) (opv_assign rfl) rfl ?_
        refine RO.nil ?_
        refine blockQ_normal ?_
        refine thenQ_normal ?_
        refine Runs.has [(1, .d (.int _ _)), (2, .ref 0 0), (4, .d (.bool false)), (5, .d (.int _ _)), (6, .d (.bool false))] ⟨rfl, rfl, rfl, rfl, rfl, trivial⟩ ?_
        refine Runs.seq ?_
        refine Runs.rseq ?_
        refine RO.opv (v' := .d (.int _ _)) (opv_assign rfl) rfl ?_
        refine RO.nil ?_
        refine Runs.block ?_
        refine Runs.loopC (X := (Nat × Bool)) (fun x => x.1 ≤ t.kids.length ∧ (x.2 && (partss (t.kids.drop x.1)).all (alone lv)) = t.parts.all (alone lv)) (fun x => t.kids.length - x.1) [(1, .d (.int _ _)), (2, .ref 0 0), (4, .d (.bool false)), (5, .d (.int _ _))] (fun x => [(6, .d (.bool x.2)), (7, .d (.int .i64 (x.1 : Nat)))]) [_] (fun x => []) (((0 : Nat), alone lv t)) ⟨rfl, rfl, rfl, rfl, trivial⟩ ⟨(by refine bool_eq ?_; first | (simp only [alone, *, cond_true, cond_false, Bool.true_and, Bool.false_and]; done) | (simp only [alone, *, cond_true, cond_false, Bool.true_and, Bool.false_and]; rw [List.getElem?_eq_getElem (by omega)]; rfl)), rfl, trivial⟩ rfl ⟨Nat.zero_le _, by rw [List.drop_zero, t.parts_kids, List.all_cons]⟩ fun x hi => ?_
        refine Runs.seq ?_
        refine Runs.rseq ?_
        refine RO.opv (v' := .d (.int _ _)) (opv_move rfl) rfl ?_
        refine RO.opv (v' := .d (.int _ _)) (opv_move rfl) rfl ?_
        refine RO.opv (v' := .d (.bool _)) (opv_bin rfl rfl rfl) rfl ?_
        refine RO.opc (opv_move rfl) (fun h9 => ?_) (fun h9 => ?_)
        · skip
          have hk : x.1 < t.kids.length := by have := of_decide_eq_true h9; omega
          refine RO.opgv (v' := .d (.bool _)) rfl (opv_move rfl) rfl ?_
          refine RO.opc (opv_pick rfl rfl) (fun h10 => ?_) (fun h10 => ?_)
          · skip
            have hf : x.2 = true := h10
            refine RO.nil ?_
            refine Runs.condT rfl ?_
            refine Runs.skip ?_
            refine thenQ_normal ?_
            refine Runs.has [(1, .d (.int _ _)), (2, .ref 0 0), (4, .d (.bool false)), (5, .d (.int _ _)), (6, .d (.bool _)), (7, .d (.int _ _))] ⟨rfl, rfl, rfl, rfl, rfl, rfl, trivial⟩ ?_
            refine Runs.seq ?_
            refine Runs.block ?_
            refine Runs.region ?_
            refine RO.opv (v' := .ref 0 3) (opv_field_ref rfl rfl) rfl ?_
            refine RO.opv (v' := .d (.list (encs _))) (opv_load_ref rfl rfl rfl) rfl ?_
            refine RO.opv (v' := .d (.int _ _)) (opv_move rfl) rfl ?_
            refine RO.opv (v' := .d (.ptr _)) (opv_index_terms rfl rfl (by omega)) rfl ?_
            refine RO.opv (v' := .d (enc _)) (opv_load_pterm rfl) rfl ?_
            refine RO.opv (v' := .d (.int _ _)) (opv_move rfl) rfl ?_
            refine RO.opv (v' := .d (.bool _)) (opv_callF (ih t.kids[x.1] lv (by have := sizes_mem (List.getElem_mem hk); omega) (by have := bulks_mem (List.getElem_mem hk); omega)) rfl rfl rfl trivial) rfl ?_
            refine RO.opv (v' := .d (.bool _)) (opv_assign rfl) rfl ?_
            refine RO.nil ?_
            refine blockQ_normal ?_
            refine thenQ_normal ?_
            refine Runs.has [(1, .d (.int _ _)), (2, .ref 0 0), (4, .d (.bool false)), (5, .d (.int _ _)), (6, .d (.bool _)), (7, .d (.int _ _))] ⟨rfl, rfl, rfl, rfl, rfl, rfl, trivial⟩ ?_
            refine Runs.region ?_
            refine RO.opv (v' := .d (.int _ _)) (opv_move rfl) rfl ?_
            refine RO.opv (v' := .d (.int _ _)) (opv_bin rfl rfl rfl) rfl ?_
            refine RO.opv (v' := .d (.int _ _)) (opv_assign rfl) rfl ?_
            refine RO.nil ?_
            refine thenQ_normal ?_
            refine ⟨(x.1 + 1, t.kids[x.1].parts.all (alone lv)), 1, (by rw [hK]; exact Nat.le_of_ble_eq_true rfl), ⟨rfl, rfl, rfl, rfl, trivial⟩, ⟨?_, ?_, trivial⟩, rfl, ?_, ?_⟩
            · rfl
            · refine int_eq ?_; rw [wrap64 (by omega) (by omega)]; omega
            · refine ⟨by show x.1 + 1 ≤ _; omega, ?_⟩
              rw [← hi.2, hf, drop_get hk, partss, List.all_append, Bool.true_and]
            · show t.kids.length - (x.1 + 1) < _; omega
          · skip
            have hf : x.2 = false := h10
            refine RO.nil ?_
            refine Runs.condF rfl ?_
            refine Runs.exit ?_
            refine thenQ_exit ?_
            refine thenQ_exit ?_
            refine blockQ_here ?_
            refine thenQ_normal ?_
            refine Runs.has [(4, .d (.bool false)), (6, .d (.bool _))] ⟨rfl, rfl, trivial⟩ ?_
            refine Runs.rseq ?_
            refine RO.opv (v' := .d (.bool _)) (opv_move rfl) rfl ?_
            refine RO.opv (v' := .d (.bool _)) (opv_assign rfl) rfl ?_
            refine RO.nil ?_
            refine Runs.ret ?_
            refine EndQ.tmp (.inr rfl) rfl rfl 0 (by exact Nat.le_refl _) (by exact Nat.zero_le _) trivial ⟨?_, rfl⟩
            refine bool_eq ?_
            first
              | (rw [← hi.2, hf, Bool.false_and]; done)
              | (rw [← hi.2, hk, List.drop_length]; simp [partss])
        · skip
          have hk : x.1 = t.kids.length := by have := of_decide_eq_false h9; omega
          refine RO.off rfl ?_
          refine RO.opv (v' := .d (.bool false)) (opv_pick rfl rfl) rfl ?_
          refine RO.nil ?_
          refine Runs.condF rfl ?_
          refine Runs.exit ?_
          refine thenQ_exit ?_
          refine thenQ_exit ?_
          refine blockQ_here ?_
          refine thenQ_normal ?_
          refine Runs.has [(4, .d (.bool false)), (6, .d (.bool _))] ⟨rfl, rfl, trivial⟩ ?_
          refine Runs.rseq ?_
          refine RO.opv (v' := .d (.bool _)) (opv_move rfl) rfl ?_
          refine RO.opv (v' := .d (.bool _)) (opv_assign rfl) rfl ?_
          refine RO.nil ?_
          refine Runs.ret ?_
          refine EndQ.tmp (.inr rfl) rfl rfl 0 (by exact Nat.le_refl _) (by exact Nat.zero_le _) trivial ⟨?_, rfl⟩
          refine bool_eq ?_
          first
            | (rw [← hi.2, hf, Bool.false_and]; done)
            | (rw [← hi.2, hk, List.drop_length]; simp [partss])
    · skip
      refine RO.off rfl ?_
      refine RO.off rfl ?_
      refine RO.off rfl ?_
      refine RO.opv (v' := .d (.bool false)) (opv_pick rfl rfl) rfl ?_
      refine RO.opv (v' := .d (.bool false)) (opv_move rfl) rfl ?_
      refine RO.off rfl ?_
      refine RO.off rfl ?_
      refine RO.off rfl ?_
      refine RO.opv (v' := .d (.bool false)) (opv_pick rfl rfl) rfl ?_
      refine RO.opv (v' := .d (.bool false)) (opv_move rfl) rfl ?_
      refine RO.off rfl ?_
      refine RO.off rfl ?_
      refine RO.opv (v' := .d (.bool false)) (opv_pick rfl rfl) rfl ?_
      refine RO.opv (v' := .d (.bool false)) (opv_assign rfl) rfl ?_
      refine RO.nil ?_
      refine blockQ_normal ?_
      refine thenQ_normal ?_
      refine Runs.has [(1, .d (.int _ _)), (2, .ref 0 0), (4, .d (.bool false)), (5, .d (.int _ _)), (6, .d (.bool false))] ⟨rfl, rfl, rfl, rfl, rfl, trivial⟩ ?_
      refine Runs.seq ?_
      refine Runs.rseq ?_
      refine RO.opv (v' := .d (.int _ _)) (opv_assign rfl) rfl ?_
      refine RO.nil ?_
      refine Runs.block ?_
      refine Runs.loopC (X := (Nat × Bool)) (fun x => x.1 ≤ t.kids.length ∧ (x.2 && (partss (t.kids.drop x.1)).all (alone lv)) = t.parts.all (alone lv)) (fun x => t.kids.length - x.1) [(1, .d (.int _ _)), (2, .ref 0 0), (4, .d (.bool false)), (5, .d (.int _ _))] (fun x => [(6, .d (.bool x.2)), (7, .d (.int .i64 (x.1 : Nat)))]) [_] (fun x => []) (((0 : Nat), alone lv t)) ⟨rfl, rfl, rfl, rfl, trivial⟩ ⟨(by refine bool_eq ?_; first | (simp only [alone, *, cond_true, cond_false, Bool.true_and, Bool.false_and]; done) | (simp only [alone, *, cond_true, cond_false, Bool.true_and, Bool.false_and]; rw [List.getElem?_eq_getElem (by omega)]; rfl)), rfl, trivial⟩ rfl ⟨Nat.zero_le _, by rw [List.drop_zero, t.parts_kids, List.all_cons]⟩ fun x hi => ?_
      refine Runs.seq ?_
      refine Runs.rseq ?_
      refine RO.opv (v' := .d (.int _ _)) (opv_move rfl) rfl ?_
      refine RO.opv (v' := .d (.int _ _)) (opv_move rfl) rfl ?_
      refine RO.opv (v' := .d (.bool _)) (opv_bin rfl rfl rfl) rfl ?_
      refine RO.opc (opv_move rfl) (fun h11 => ?_) (fun h11 => ?_)
      · skip
        have hk : x.1 < t.kids.length := by have := of_decide_eq_true h11; omega
        refine RO.opgv (v' := .d (.bool _)) rfl (opv_move rfl) rfl ?_
        refine RO.opc (opv_pick rfl rfl) (fun h12 => ?_) (fun h12 => ?_)
        · skip
          have hf : x.2 = true := h12
          refine RO.nil ?_
          refine Runs.condT rfl ?_
          refine Runs.skip ?_
          refine thenQ_normal ?_
          refine Runs.has [(1, .d (.int _ _)), (2, .ref 0 0), (4, .d (.bool false)), (5, .d (.int _ _)), (6, .d (.bool _)), (7, .d (.int _ _))] ⟨rfl, rfl, rfl, rfl, rfl, rfl, trivial⟩ ?_
          refine Runs.seq ?_
          refine Runs.block ?_
          refine Runs.region ?_
          refine RO.opv (v' := .ref 0 3) (opv_field_ref rfl rfl) rfl ?_
          refine RO.opv (v' := .d (.list (encs _))) (opv_load_ref rfl rfl rfl) rfl ?_
          refine RO.opv (v' := .d (.int _ _)) (opv_move rfl) rfl ?_
          refine RO.opv (v' := .d (.ptr _)) (opv_index_terms rfl rfl (by omega)) rfl ?_
          refine RO.opv (v' := .d (enc _)) (opv_load_pterm rfl) rfl ?_
          refine RO.opv (v' := .d (.int _ _)) (opv_move rfl) rfl ?_
          refine RO.opv (v' := .d (.bool _)) (opv_callF (ih t.kids[x.1] lv (by have := sizes_mem (List.getElem_mem hk); omega) (by have := bulks_mem (List.getElem_mem hk); omega)) rfl rfl rfl trivial) rfl ?_
          refine RO.opv (v' := .d (.bool _)) (opv_assign rfl) rfl ?_
          refine RO.nil ?_
          refine blockQ_normal ?_
          refine thenQ_normal ?_
          refine Runs.has [(1, .d (.int _ _)), (2, .ref 0 0), (4, .d (.bool false)), (5, .d (.int _ _)), (6, .d (.bool _)), (7, .d (.int _ _))] ⟨rfl, rfl, rfl, rfl, rfl, rfl, trivial⟩ ?_
          refine Runs.region ?_
          refine RO.opv (v' := .d (.int _ _)) (opv_move rfl) rfl ?_
          refine RO.opv (v' := .d (.int _ _)) (opv_bin rfl rfl rfl) rfl ?_
          refine RO.opv (v' := .d (.int _ _)) (opv_assign rfl) rfl ?_
          refine RO.nil ?_
          refine thenQ_normal ?_
          refine ⟨(x.1 + 1, t.kids[x.1].parts.all (alone lv)), 1, (by rw [hK]; exact Nat.le_of_ble_eq_true rfl), ⟨rfl, rfl, rfl, rfl, trivial⟩, ⟨?_, ?_, trivial⟩, rfl, ?_, ?_⟩
          · rfl
          · refine int_eq ?_; rw [wrap64 (by omega) (by omega)]; omega
          · refine ⟨by show x.1 + 1 ≤ _; omega, ?_⟩
            rw [← hi.2, hf, drop_get hk, partss, List.all_append, Bool.true_and]
          · show t.kids.length - (x.1 + 1) < _; omega
        · skip
          have hf : x.2 = false := h12
          refine RO.nil ?_
          refine Runs.condF rfl ?_
          refine Runs.exit ?_
          refine thenQ_exit ?_
          refine thenQ_exit ?_
          refine blockQ_here ?_
          refine thenQ_normal ?_
          refine Runs.has [(4, .d (.bool false)), (6, .d (.bool _))] ⟨rfl, rfl, trivial⟩ ?_
          refine Runs.rseq ?_
          refine RO.opv (v' := .d (.bool _)) (opv_move rfl) rfl ?_
          refine RO.opv (v' := .d (.bool _)) (opv_assign rfl) rfl ?_
          refine RO.nil ?_
          refine Runs.ret ?_
          refine EndQ.tmp (.inr rfl) rfl rfl 0 (by exact Nat.le_refl _) (by exact Nat.zero_le _) trivial ⟨?_, rfl⟩
          refine bool_eq ?_
          first
            | (rw [← hi.2, hf, Bool.false_and]; done)
            | (rw [← hi.2, hk, List.drop_length]; simp [partss])
      · skip
        have hk : x.1 = t.kids.length := by have := of_decide_eq_false h11; omega
        refine RO.off rfl ?_
        refine RO.opv (v' := .d (.bool false)) (opv_pick rfl rfl) rfl ?_
        refine RO.nil ?_
        refine Runs.condF rfl ?_
        refine Runs.exit ?_
        refine thenQ_exit ?_
        refine thenQ_exit ?_
        refine blockQ_here ?_
        refine thenQ_normal ?_
        refine Runs.has [(4, .d (.bool false)), (6, .d (.bool _))] ⟨rfl, rfl, trivial⟩ ?_
        refine Runs.rseq ?_
        refine RO.opv (v' := .d (.bool _)) (opv_move rfl) rfl ?_
        refine RO.opv (v' := .d (.bool _)) (opv_assign rfl) rfl ?_
        refine RO.nil ?_
        refine Runs.ret ?_
        refine EndQ.tmp (.inr rfl) rfl rfl 0 (by exact Nat.le_refl _) (by exact Nat.zero_le _) trivial ⟨?_, rfl⟩
        refine bool_eq ?_
        first
          | (rw [← hi.2, hf, Bool.false_and]; done)
          | (rw [← hi.2, hk, List.drop_length]; simp [partss])
  · skip
    refine RO.nil ?_
    refine Runs.condF rfl ?_
    refine Runs.has [(1, .d (.int _ _)), (2, .ref 0 0), (4, .d (.bool false)), (5, .d (.int _ _)), (6, .d (.bool false)), (12, .d (.int _ _))] ⟨rfl, rfl, rfl, rfl, rfl, rfl, trivial⟩ ?_
    refine Runs.rseq ?_
    refine RO.opv (v' := .d (.bool _)) (opv_bin rfl rfl rfl) rfl ?_
    refine RO.opc (opv_assign rfl) (fun h13 => ?_) (fun h13 => ?_)
    · skip
      refine RO.nil ?_
      refine Runs.condT rfl ?_
      refine Runs.has [(1, .d (.int _ _)), (2, .ref 0 0), (4, .d (.bool false)), (5, .d (.int _ _)), (6, .d (.bool false))] ⟨rfl, rfl, rfl, rfl, rfl, trivial⟩ ?_
      refine Runs.region ?_
      refine RO.opv (v' := .ref 0 2) (opv_field_ref rfl rfl) rfl ?_
      refine RO.opv (v' := .d (.str _)) (opv_load_ref rfl rfl rfl) rfl ?_
      refine RO.opv (v' := .d (.bool _)) (opv_bin rfl rfl rfl) rfl ?_
      refine RO.opc (opv_move rfl) (fun h14 => ?_) (fun h14 => ?_)
      · skip
        refine RO.opgv (v' := .d (.int _ _)) rfl (opv_move rfl) rfl ?_
        refine RO.opgv (v' := .d (.bool _)) rfl (opv_bin rfl rfl rfl) rfl ?_
        refine RO.opv (v' := .d (.bool _)) (opv_pick rfl rfl) rfl ?_
        refine RO.opv (v' := .d (.bool _)) (opv_assign rfl) rfl ?_
        refine RO.nil ?_
        refine blockQ_normal ?_
        refine thenQ_normal ?_
        refine Runs.has [(1, .d (.int _ _)), (2, .ref 0 0), (4, .d (.bool false)), (5, .d (.int _ _)), (6, .d (.bool _))] ⟨rfl, rfl, rfl, rfl, rfl, trivial⟩ ?_
        refine Runs.seq ?_
        refine Runs.rseq ?_
        refine RO.opv (v' := .d (.int _ _)) (opv_assign rfl) rfl ?_
        refine RO.nil ?_
        refine Runs.block ?_
        refine Runs.loopC (X := (Nat × Bool)) (fun x => x.1 ≤ t.kids.length ∧ (x.2 && (partss (t.kids.drop x.1)).all (alone lv)) = t.parts.all (alone lv)) (fun x => t.kids.length - x.1) [(1, .d (.int _ _)), (2, .ref 0 0), (4, .d (.bool false)), (5, .d (.int _ _))] (fun x => [(6, .d (.bool x.2)), (7, .d (.int .i64 (x.1 : Nat)))]) [_] (fun x => []) (((0 : Nat), alone lv t)) ⟨rfl, rfl, rfl, rfl, trivial⟩ ⟨(by refine bool_eq ?_; first | (simp only [alone, *, cond_true, cond_false, Bool.true_and, Bool.false_and]; done) | (simp only [alone, *, cond_true, cond_false, Bool.true_and, Bool.false_and]; rw [List.getElem?_eq_getElem (by omega)]; rfl)), rfl, trivial⟩ rfl ⟨Nat.zero_le _, by rw [List.drop_zero, t.parts_kids, List.all_cons]⟩ fun x hi => ?_
        refine Runs.seq ?_
        refine Runs.rseq ?_
        refine RO.opv (v' := .d (.int _ _)) (opv_move rfl) rfl ?_
        refine RO.opv (v' := .d (.int _ _)) (opv_move rfl) rfl ?_
        refine RO.opv (v' := .d (.bool _)) (opv_bin rfl rfl rfl) rfl ?_
        refine RO.opc (opv_move rfl) (fun h15 => ?_) (fun h15 => ?_)
        · skip
          have hk : x.1 < t.kids.length := by have := of_decide_eq_true h15; omega
          refine RO.opgv (v' := .d (.bool _)) rfl (opv_move rfl) rfl ?_
          refine RO.opc (opv_pick rfl rfl) (fun h16 => ?_) (fun h16 => ?_)
          · skip
            have hf : x.2 = true := h16
            refine RO.nil ?_
            refine Runs.condT rfl ?_
            refine Runs.skip ?_
            refine thenQ_normal ?_
            refine Runs.has [(1, .d (.int _ _)), (2, .ref 0 0), (4, .d (.bool false)), (5, .d (.int _ _)), (6, .d (.bool _)), (7, .d (.int _ _))] ⟨rfl, rfl, rfl, rfl, rfl, rfl, trivial⟩ ?_
            refine Runs.seq ?_
            refine Runs.block ?_
            refine Runs.region ?_
            refine RO.opv (v' := .ref 0 3) (opv_field_ref rfl rfl) rfl ?_
            refine RO.opv (v' := .d (.list (encs _))) (opv_load_ref rfl rfl rfl) rfl ?_
            refine RO.opv (v' := .d (.int _ _)) (opv_move rfl) rfl ?_
            refine RO.opv (v' := .d (.ptr _)) (opv_index_terms rfl rfl (by omega)) rfl ?_
            refine RO.opv (v' := .d (enc _)) (opv_load_pterm rfl) rfl ?_
            refine RO.opv (v' := .d (.int _ _)) (opv_move rfl) rfl ?_
            refine RO.opv (v' := .d (.bool _)) (opv_callF (ih t.kids[x.1] lv (by have := sizes_mem (List.getElem_mem hk); omega) (by have := bulks_mem (List.getElem_mem hk); omega)) rfl rfl rfl trivial) rfl ?_
            refine RO.opv (v' := .d (.bool _)) (opv_assign rfl) rfl ?_
            refine RO.nil ?_
            refine blockQ_normal ?_
            refine thenQ_normal ?_
            refine Runs.has [(1, .d (.int _ _)), (2, .ref 0 0), (4, .d (.bool false)), (5, .d (.int _ _)), (6, .d (.bool _)), (7, .d (.int _ _))] ⟨rfl, rfl, rfl, rfl, rfl, rfl, trivial⟩ ?_
            refine Runs.region ?_
            refine RO.opv (v' := .d (.int _ _)) (opv_move rfl) rfl ?_
            refine RO.opv (v' := .d (.int _ _)) (opv_bin rfl rfl rfl) rfl ?_
            refine RO.opv (v' := .d (.int _ _)) (opv_assign rfl) rfl ?_
            refine RO.nil ?_
            refine thenQ_normal ?_
            refine ⟨(x.1 + 1, t.kids[x.1].parts.all (alone lv)), 1, (by rw [hK]; exact Nat.le_of_ble_eq_true rfl), ⟨rfl, rfl, rfl, rfl, trivial⟩, ⟨?_, ?_, trivial⟩, rfl, ?_, ?_⟩
            · rfl
            · refine int_eq ?_; rw [wrap64 (by omega) (by omega)]; omega
            · refine ⟨by show x.1 + 1 ≤ _; omega, ?_⟩
              rw [← hi.2, hf, drop_get hk, partss, List.all_append, Bool.true_and]
            · show t.kids.length - (x.1 + 1) < _; omega
          · skip
            have hf : x.2 = false := h16
            refine RO.nil ?_
            refine Runs.condF rfl ?_
            refine Runs.exit ?_
            refine thenQ_exit ?_
            refine thenQ_exit ?_
            refine blockQ_here ?_
            refine thenQ_normal ?_
            refine Runs.has [(4, .d (.bool false)), (6, .d (.bool _))] ⟨rfl, rfl, trivial⟩ ?_
            refine Runs.rseq ?_
            refine RO.opv (v' := .d (.bool _)) (opv_move rfl) rfl ?_
            refine RO.opv (v' := .d (.bool _)) (opv_assign rfl) rfl ?_
            refine RO.nil ?_
            refine Runs.ret ?_
            refine EndQ.tmp (.inr rfl) rfl rfl 0 (by exact Nat.le_refl _) (by exact Nat.zero_le _) trivial ⟨?_, rfl⟩
            refine bool_eq ?_
            first
              | (rw [← hi.2, hf, Bool.false_and]; done)
              | (rw [← hi.2, hk, List.drop_length]; simp [partss])
        · skip
          have hk : x.1 = t.kids.length := by have := of_decide_eq_false h15; omega
          refine RO.off rfl ?_
          refine RO.opv (v' := .d (.bool false)) (opv_pick rfl rfl) rfl ?_
          refine RO.nil ?_
          refine Runs.condF rfl ?_
          refine Runs.exit ?_
          refine thenQ_exit ?_
          refine thenQ_exit ?_
          refine blockQ_here ?_
          refine thenQ_normal ?_
          refine Runs.has [(4, .d (.bool false)), (6, .d (.bool _))] ⟨rfl, rfl, trivial⟩ ?_
          refine Runs.rseq ?_
          refine RO.opv (v' := .d (.bool _)) (opv_move rfl) rfl ?_
          refine RO.opv (v' := .d (.bool _)) (opv_assign rfl) rfl ?_
          refine RO.nil ?_
          refine Runs.ret ?_
          refine EndQ.tmp (.inr rfl) rfl rfl 0 (by exact Nat.le_refl _) (by exact Nat.zero_le _) trivial ⟨?_, rfl⟩
          refine bool_eq ?_
          first
            | (rw [← hi.2, hf, Bool.false_and]; done)
            | (rw [← hi.2, hk, List.drop_length]; simp [partss])
      · skip
        refine RO.off rfl ?_
        refine RO.off rfl ?_
        refine RO.opv (v' := .d (.bool false)) (opv_pick rfl rfl) rfl ?_
        refine RO.opv (v' := .d (.bool false)) (opv_assign rfl) rfl ?_
        refine RO.nil ?_
        refine blockQ_normal ?_
        refine thenQ_normal ?_
        refine Runs.has [(1, .d (.int _ _)), (2, .ref 0 0), (4, .d (.bool false)), (5, .d (.int _ _)), (6, .d (.bool false))] ⟨rfl, rfl, rfl, rfl, rfl, trivial⟩ ?_
        refine Runs.seq ?_
        refine Runs.rseq ?_
        refine RO.opv (v' := .d (.int _ _)) (opv_assign rfl) rfl ?_
        refine RO.nil ?_
        refine Runs.block ?_
        refine Runs.loopC (X := (Nat × Bool)) (fun x => x.1 ≤ t.kids.length ∧ (x.2 && (partss (t.kids.drop x.1)).all (alone lv)) = t.parts.all (alone lv)) (fun x => t.kids.length - x.1) [(1, .d (.int _ _)), (2, .ref 0 0), (4, .d (.bool false)), (5, .d (.int _ _))] (fun x => [(6, .d (.bool x.2)), (7, .d (.int .i64 (x.1 : Nat)))]) [_] (fun x => []) (((0 : Nat), alone lv t)) ⟨rfl, rfl, rfl, rfl, trivial⟩ ⟨(by refine bool_eq ?_; first | (simp only [alone, *, cond_true, cond_false, Bool.true_and, Bool.false_and]; done) | (simp only [alone, *, cond_true, cond_false, Bool.true_and, Bool.false_and]; rw [List.getElem?_eq_getElem (by omega)]; rfl)), rfl, trivial⟩ rfl ⟨Nat.zero_le _, by rw [List.drop_zero, t.parts_kids, List.all_cons]⟩ fun x hi => ?_
        refine Runs.seq ?_
        refine Runs.rseq ?_
        refine RO.opv (v' := .d (.int _ _)) (opv_move rfl) rfl ?_
        refine RO.opv (v' := .d (.int _ _)) (opv_move rfl) rfl ?_
        refine RO.opv (v' := .d (.bool _)) (opv_bin rfl rfl rfl) rfl ?_
        refine RO.opc (opv_move rfl) (fun h17 => ?_) (fun h17 => ?_)
        · skip
          have hk : x.1 < t.kids.length := by have := of_decide_eq_true h17; omega
          refine RO.opgv (v' := .d (.bool _)) rfl (opv_move rfl) rfl ?_
          refine RO.opc (opv_pick rfl rfl) (fun h18 => ?_) (fun h18 => ?_)
          · skip
            have hf : x.2 = true := h18
            refine RO.nil ?_
            refine Runs.condT rfl ?_
            refine Runs.skip ?_
            refine thenQ_normal ?_
            refine Runs.has [(1, .d (.int _ _)), (2, .ref 0 0), (4, .d (.bool false)), (5, .d (.int _ _)), (6, .d (.bool _)), (7, .d (.int _ _))] ⟨rfl, rfl, rfl, rfl, rfl, rfl, trivial⟩ ?_
            refine Runs.seq ?_
            refine Runs.block ?_
            refine Runs.region ?_
            refine RO.opv (v' := .ref 0 3) (opv_field_ref rfl rfl) rfl ?_
            refine RO.opv (v' := .d (.list (encs _))) (opv_load_ref rfl rfl rfl) rfl ?_
            refine RO.opv (v' := .d (.int _ _)) (opv_move rfl) rfl ?_
            refine RO.opv (v' := .d (.ptr _)) (opv_index_terms rfl rfl (by omega)) rfl ?_
            refine RO.opv (v' := .d (enc _)) (opv_load_pterm rfl) rfl ?_
            refine RO.opv (v' := .d (.int _ _)) (opv_move rfl) rfl ?_
            refine RO.opv (v' := .d (.bool _)) (opv_callF (ih t.kids[x.1] lv (by have := sizes_mem (List.getElem_mem hk); omega) (by have := bulks_mem (List.getElem_mem hk); omega)) rfl rfl rfl trivial) rfl ?_
            refine RO.opv (v' := .d (.bool _)) (opv_assign rfl) rfl ?_
            refine RO.nil ?_
            refine blockQ_normal ?_
            refine thenQ_normal ?_
            refine Runs.has [(1, .d (.int _ _)), (2, .ref 0 0), (4, .d (.bool false)), (5, .d (.int _ _)), (6, .d (.bool _)), (7, .d (.int _ _))] ⟨rfl, rfl, rfl, rfl, rfl, rfl, trivial⟩ ?_
            refine Runs.region ?_
            refine RO.opv (v' := .d (.int _ _)) (opv_move rfl) rfl ?_
            refine RO.opv (v' := .d (.int _ _)) (opv_bin rfl rfl rfl) rfl ?_
            refine RO.opv (v' := .d (.int _ _)) (opv_assign rfl) rfl ?_
            refine RO.nil ?_
            refine thenQ_normal ?_
            refine ⟨(x.1 + 1, t.kids[x.1].parts.all (alone lv)), 1, (by rw [hK]; exact Nat.le_of_ble_eq_true rfl), ⟨rfl, rfl, rfl, rfl, trivial⟩, ⟨?_, ?_, trivial⟩, rfl, ?_, ?_⟩
            · rfl
            · refine int_eq ?_; rw [wrap64 (by omega) (by omega)]; omega
            · refine ⟨by show x.1 + 1 ≤ _; omega, ?_⟩
              rw [← hi.2, hf, drop_get hk, partss, List.all_append, Bool.true_and]
            · show t.kids.length - (x.1 + 1) < _; omega
          · skip
            have hf : x.2 = false := h18
            refine RO.nil ?_
            refine Runs.condF rfl ?_
            refine Runs.exit ?_
            refine thenQ_exit ?_
            refine thenQ_exit ?_
            refine blockQ_here ?_
            refine thenQ_normal ?_
            refine Runs.has [(4, .d (.bool false)), (6, .d (.bool _))] ⟨rfl, rfl, trivial⟩ ?_
            refine Runs.rseq ?_
            refine RO.opv (v' := .d (.bool _)) (opv_move rfl) rfl ?_
            refine RO.opv (v' := .d (.bool _)) (opv_assign rfl) rfl ?_
            refine RO.nil ?_
            refine Runs.ret ?_
            refine EndQ.tmp (.inr rfl) rfl rfl 0 (by exact Nat.le_refl _) (by exact Nat.zero_le _) trivial ⟨?_, rfl⟩
            refine bool_eq ?_
            first
              | (rw [← hi.2, hf, Bool.false_and]; done)
              | (rw [← hi.2, hk, List.drop_length]; simp [partss])
        · skip
          have hk : x.1 = t.kids.length := by have := of_decide_eq_false h17; omega
          refine RO.off rfl ?_
          refine RO.opv (v' := .d (.bool false)) (opv_pick rfl rfl) rfl ?_
          refine RO.nil ?_
          refine Runs.condF rfl ?_
          refine Runs.exit ?_
          refine thenQ_exit ?_
          refine thenQ_exit ?_
          refine blockQ_here ?_
          refine thenQ_normal ?_
          refine Runs.has [(4, .d (.bool false)), (6, .d (.bool _))] ⟨rfl, rfl, trivial⟩ ?_
          refine Runs.rseq ?_
          refine RO.opv (v' := .d (.bool _)) (opv_move rfl) rfl ?_
          refine RO.opv (v' := .d (.bool _)) (opv_assign rfl) rfl ?_
          refine RO.nil ?_
          refine Runs.ret ?_
          refine EndQ.tmp (.inr rfl) rfl rfl 0 (by exact Nat.le_refl _) (by exact Nat.zero_le _) trivial ⟨?_, rfl⟩
          refine bool_eq ?_
          first
            | (rw [← hi.2, hf, Bool.false_and]; done)
            | (rw [← hi.2, hk, List.drop_length]; simp [partss])
    · skip
      refine RO.nil ?_
      refine Runs.condF rfl ?_
      refine Runs.has [(1, .d (.int _ _)), (2, .ref 0 0), (4, .d (.bool false)), (5, .d (.int _ _)), (6, .d (.bool false)), (12, .d (.int _ _))] ⟨rfl, rfl, rfl, rfl, rfl, rfl, trivial⟩ ?_
      refine Runs.rseq ?_
      refine RO.opv (v' := .d (.bool _)) (opv_bin rfl rfl rfl) rfl ?_
      refine RO.opc (opv_assign rfl) (fun h19 => ?_) (fun h19 => ?_)
      · skip
        refine RO.nil ?_
        refine Runs.condT rfl ?_
        refine Runs.has [(1, .d (.int _ _)), (2, .ref 0 0), (4, .d (.bool false)), (5, .d (.int _ _)), (6, .d (.bool false))] ⟨rfl, rfl, rfl, rfl, rfl, trivial⟩ ?_
        refine Runs.region ?_
        refine RO.opv (v' := .ref 0 1) (opv_field_ref rfl rfl) rfl ?_
        refine RO.opv (v' := .d (.int _ _)) (opv_load_ref rfl rfl rfl) rfl ?_
        refine RO.opv (v' := .d (.bool _)) (opv_bin rfl rfl rfl) rfl ?_
        refine RO.opc (opv_move rfl) (fun h20 => ?_) (fun h20 => ?_)
        · skip
          refine RO.opgv (v' := .ref 0 2) rfl (opv_field_ref rfl rfl) rfl ?_
          refine RO.opgv (v' := .d (.str _)) rfl (opv_load_ref rfl rfl rfl) rfl ?_
          refine RO.opgv (v' := .d (.int _ _)) rfl (opv_len rfl rfl rfl) rfl ?_
          refine RO.opgv (v' := .d (.bool _)) rfl (opv_bin rfl rfl rfl) rfl ?_
          refine RO.opv (v' := .d (.bool _)) (opv_pick rfl rfl) rfl ?_
          refine RO.opc (opv_move rfl) (fun h21 => ?_) (fun h21 => ?_)
          · skip
            refine RO.opgv (v' := .d (.int _ _)) rfl (opv_move rfl) rfl ?_
            refine RO.opgv (v' := .d (.bool _)) rfl (opv_bin rfl rfl rfl) rfl ?_
            refine RO.opv (v' := .d (.bool _)) (opv_pick rfl rfl) rfl ?_
            refine RO.opv (v' := .d (.bool _)) (opv_assign rfl) rfl ?_
            refine RO.nil ?_
            refine blockQ_normal ?_
            refine thenQ_normal ?_
            refine Runs.has [(1, .d (.int _ _)), (2, .ref 0 0), (4, .d (.bool false)), (5, .d (.int _ _)), (6, .d (.bool _))] ⟨rfl, rfl, rfl, rfl, rfl, trivial⟩ ?_
            refine Runs.seq ?_
            refine Runs.rseq ?_
            refine RO.opv (v' := .d (.int _ _)) (opv_assign rfl) rfl ?_
            refine RO.nil ?_
            refine Runs.block ?_
            refine Runs.loopC (X := (Nat × Bool)) (fun x => x.1 ≤ t.kids.length ∧ (x.2 && (partss (t.kids.drop x.1)).all (alone lv)) = t.parts.all (alone lv)) (fun x => t.kids.length - x.1) [(1, .d (.int _ _)), (2, .ref 0 0), (4, .d (.bool false)), (5, .d (.int _ _))] (fun x => [(6, .d (.bool x.2)), (7, .d (.int .i64 (x.1 : Nat)))]) [_] (fun x => []) (((0 : Nat), alone lv t)) ⟨rfl, rfl, rfl, rfl, trivial⟩ ⟨(by refine bool_eq ?_; first | (simp only [alone, *, cond_true, cond_false, Bool.true_and, Bool.false_and]; done) | (simp only [alone, *, cond_true, cond_false, Bool.true_and, Bool.false_and]; rw [List.getElem?_eq_getElem (by omega)]; rfl)), rfl, trivial⟩ rfl ⟨Nat.zero_le _, by rw [List.drop_zero, t.parts_kids, List.all_cons]⟩ fun x hi => ?_
            refine Runs.seq ?_
            refine Runs.rseq ?_
            refine RO.opv (v' := .d (.int _ _)) (opv_move rfl) rfl ?_
            refine RO.opv (v' := .d (.int _ _)) (opv_move rfl) rfl ?_
            refine RO.opv (v' := .d (.bool _)) (opv_bin rfl rfl rfl) rfl ?_
            refine RO.opc (opv_move rfl) (fun h22 => ?_) (fun h22 => ?_)
            · skip
              have hk : x.1 < t.kids.length := by have := of_decide_eq_true h22; omega
              refine RO.opgv (v' := .d (.bool _)) rfl (opv_move rfl) rfl ?_
              refine RO.opc (opv_pick rfl rfl) (fun h23 => ?_) (fun h23 => ?_)
              · skip
                have hf : x.2 = true := h23
                refine RO.nil ?_
                refine Runs.condT rfl ?_
                refine Runs.skip ?_
                refine thenQ_normal ?_
                refine Runs.has [(1, .d (.int _ _)), (2, .ref 0 0), (4, .d (.bool false)), (5, .d (.int _ _)), (6, .d (.bool _)), (7, .d (.int _ _))] ⟨rfl, rfl, rfl, rfl, rfl, rfl, trivial⟩ ?_
                refine Runs.seq ?_
                refine Runs.block ?_
                refine Runs.region ?_
                refine RO.opv (v' := .ref 0 3) (opv_field_ref rfl rfl) rfl ?_
                refine RO.opv (v' := .d (.list (encs _))) (opv_load_ref rfl rfl rfl) rfl ?_
                refine RO.opv (v' := .d (.int _ _)) (opv_move rfl) rfl ?_
                refine RO.opv (v' := .d (.ptr _)) (opv_index_terms rfl rfl (by omega)) rfl ?_
                refine RO.opv (v' := .d (enc _)) (opv_load_pterm rfl) rfl ?_
                refine RO.opv (v' := .d (.int _ _)) (opv_move rfl) rfl ?_
                refine RO.opv (v' := .d (.bool _)) (opv_callF (ih t.kids[x.1] lv (by have := sizes_mem (List.getElem_mem hk); omega) (by have := bulks_mem (List.getElem_mem hk); omega)) rfl rfl rfl trivial) rfl ?_
                refine RO.opv (v' := .d (.bool _)) (opv_assign rfl) rfl ?_
                refine RO.nil ?_
                refine blockQ_normal ?_
                refine thenQ_normal ?_
                refine Runs.has [(1, .d (.int _ _)), (2, .ref 0 0), (4, .d (.bool false)), (5, .d (.int _ _)), (6, .d (.bool _)), (7, .d (.int _ _))] ⟨rfl, rfl, rfl, rfl, rfl, rfl, trivial⟩ ?_
                refine Runs.region ?_
                refine RO.opv (v' := .d (.int _ _)) (opv_move rfl) rfl ?_
                refine RO.opv (v' := .d (.int _ _)) (opv_bin rfl rfl rfl) rfl ?_
                refine RO.opv (v' := .d (.int _ _)) (opv_assign rfl) rfl ?_
                refine RO.nil ?_
                refine thenQ_normal ?_
                refine ⟨(x.1 + 1, t.kids[x.1].parts.all (alone lv)), 1, (by rw [hK]; exact Nat.le_of_ble_eq_true rfl), ⟨rfl, rfl, rfl, rfl, trivial⟩, ⟨?_, ?_, trivial⟩, rfl, ?_, ?_⟩
                · rfl
                · refine int_eq ?_; rw [wrap64 (by omega) (by omega)]; omega
                · refine ⟨by show x.1 + 1 ≤ _; omega, ?_⟩
                  rw [← hi.2, hf, drop_get hk, partss, List.all_append, Bool.true_and]
                · show t.kids.length - (x.1 + 1) < _; omega
              · skip
                have hf : x.2 = false := h23
                refine RO.nil ?_
                refine Runs.condF rfl ?_
                refine Runs.exit ?_
                refine thenQ_exit ?_
                refine thenQ_exit ?_
                refine blockQ_here ?_
                refine thenQ_normal ?_
                refine Runs.has [(4, .d (.bool false)), (6, .d (.bool _))] ⟨rfl, rfl, trivial⟩ ?_
                refine Runs.rseq ?_
                refine RO.opv (v' := .d (.bool _)) (opv_move rfl) rfl ?_
                refine RO.opv (v' := .d (.bool _)) (opv_assign rfl) rfl ?_
                refine RO.nil ?_
                refine Runs.ret ?_
                refine EndQ.tmp (.inr rfl) rfl rfl 0 (by exact Nat.le_refl _) (by exact Nat.zero_le _) trivial ⟨?_, rfl⟩
                refine bool_eq ?_
                first
                  | (rw [← hi.2, hf, Bool.false_and]; done)
                  | (rw [← hi.2, hk, List.drop_length]; simp [partss])
            · skip
              have hk : x.1 = t.kids.length := by have := of_decide_eq_false h22; omega
              refine RO.off rfl ?_
              refine RO.opv (v' := .d (.bool false)) (opv_pick rfl rfl) rfl ?_
              refine RO.nil ?_
              refine Runs.condF rfl ?_
              refine Runs.exit ?_
              refine thenQ_exit ?_
              refine thenQ_exit ?_
              refine blockQ_here ?_
              refine thenQ_normal ?_
              refine Runs.has [(4, .d (.bool false)), (6, .d (.bool _))] ⟨rfl, rfl, trivial⟩ ?_
              refine Runs.rseq ?_
              refine RO.opv (v' := .d (.bool _)) (opv_move rfl) rfl ?_
              refine RO.opv (v' := .d (.bool _)) (opv_assign rfl) rfl ?_
              refine RO.nil ?_
              refine Runs.ret ?_
              refine EndQ.tmp (.inr rfl) rfl rfl 0 (by exact Nat.le_refl _) (by exact Nat.zero_le _) trivial ⟨?_, rfl⟩
              refine bool_eq ?_
              first
                | (rw [← hi.2, hf, Bool.false_and]; done)
                | (rw [← hi.2, hk, List.drop_length]; simp [partss])
          · skip
            refine RO.off rfl ?_
            refine RO.off rfl ?_
            refine RO.opv (v' := .d (.bool false)) (opv_pick rfl rfl) rfl ?_
            refine RO.opv (v' := .d (.bool false)) (opv_assign rfl) rfl ?_
            refine RO.nil ?_
            refine blockQ_normal ?_
            refine thenQ_normal ?_
            refine Runs.has [(1, .d (.int _ _)), (2, .ref 0 0), (4, .d (.bool false)), (5, .d (.int _ _)), (6, .d (.bool false))] ⟨rfl, rfl, rfl, rfl, rfl, trivial⟩ ?_
            refine Runs.seq ?_
            refine Runs.rseq ?_
            refine RO.opv (v' := .d (.int _ _)) (opv_assign rfl) rfl ?_
            refine RO.nil ?_
            refine Runs.block ?_
            refine Runs.loopC (X := (Nat × Bool)) (fun x => x.1 ≤ t.kids.length ∧ (x.2 && (partss (t.kids.drop x.1)).all (alone lv)) = t.parts.all (alone lv)) (fun x => t.kids.length - x.1) [(1, .d (.int _ _)), (2, .ref 0 0), (4, .d (.bool false)), (5, .d (.int _ _))] (fun x => [(6, .d (.bool x.2)), (7, .d (.int .i64 (x.1 : Nat)))]) [_] (fun x => []) (((0 : Nat), alone lv t)) ⟨rfl, rfl, rfl, rfl, trivial⟩ ⟨(by refine bool_eq ?_; first | (simp only [alone, *, cond_true, cond_false, Bool.true_and, Bool.false_and]; done) | (simp only [alone, *, cond_true, cond_false, Bool.true_and, Bool.false_and]; rw [List.getElem?_eq_getElem (by omega)]; rfl)), rfl, trivial⟩ rfl ⟨Nat.zero_le _, by rw [List.drop_zero, t.parts_kids, List.all_cons]⟩ fun x hi => ?_
            refine Runs.seq ?_
            refine Runs.rseq ?_
            refine RO.opv (v' := .d (.int _ _)) (opv_move rfl) rfl ?_
            refine RO.opv (v' := .d (.int _ _)) (opv_move rfl) rfl ?_
            refine RO.opv (v' := .d (.bool _)) (opv_bin rfl rfl rfl) rfl ?_
            refine RO.opc (opv_move rfl) (fun h24 => ?_) (fun h24 => ?_)
            · skip
              have hk : x.1 < t.kids.length := by have := of_decide_eq_true h24; omega
              refine RO.opgv (v' := .d (.bool _)) rfl (opv_move rfl) rfl ?_
              refine RO.opc (opv_pick rfl rfl) (fun h25 => ?_) (fun h25 => ?_)
              · skip
                have hf : x.2 = true := h25
                refine RO.nil ?_
                refine Runs.condT rfl ?_
                refine Runs.skip ?_
                refine thenQ_normal ?_
                refine Runs.has [(1, .d (.int _ _)), (2, .ref 0 0), (4, .d (.bool false)), (5, .d (.int _ _)), (6, .d (.bool _)), (7, .d (.int _ _))] ⟨rfl, rfl, rfl, rfl, rfl, rfl, trivial⟩ ?_
                refine Runs.seq ?_
                refine Runs.block ?_
                refine Runs.region ?_
                refine RO.opv (v' := .ref 0 3) (opv_field_ref rfl rfl) rfl ?_
                refine RO.opv (v' := .d (.list (encs _))) (opv_load_ref rfl rfl rfl) rfl ?_
                refine RO.opv (v' := .d (.int _ _)) (opv_move rfl) rfl ?_
                refine RO.opv (v' := .d (.ptr _)) (opv_index_terms rfl rfl (by omega)) rfl ?_
                refine RO.opv (v' := .d (enc _)) (opv_load_pterm rfl) rfl ?_
                refine RO.opv (v' := .d (.int _ _)) (opv_move rfl) rfl ?_
                refine RO.opv (v' := .d (.bool _)) (opv_callF (ih t.kids[x.1] lv (by have := sizes_mem (List.getElem_mem hk); omega) (by have := bulks_mem (List.getElem_mem hk); omega)) rfl rfl rfl trivial) rfl ?_
                refine RO.opv (v' := .d (.bool _)) (opv_assign rfl) rfl ?_
                refine RO.nil ?_
                refine blockQ_normal ?_
                refine thenQ_normal ?_
                refine Runs.has [(1, .d (.int _ _)), (2, .ref 0 0), (4, .d (.bool false)), (5, .d (.int _ _)), (6, .d (.bool _)), (7, .d (.int _ _))] ⟨rfl, rfl, rfl, rfl, rfl, rfl, trivial⟩ ?_
                refine Runs.region ?_
                refine RO.opv (v' := .d (.int _ _)) (opv_move rfl) rfl ?_
                refine RO.opv (v' := .d (.int _ _)) (opv_bin rfl rfl rfl) rfl ?_
                refine RO.opv (v' := .d (.int _ _)) (opv_assign rfl) rfl ?_
                refine RO.nil ?_
                refine thenQ_normal ?_
                refine ⟨(x.1 + 1, t.kids[x.1].parts.all (alone lv)), 1, (by rw [hK]; exact Nat.le_of_ble_eq_true rfl), ⟨rfl, rfl, rfl, rfl, trivial⟩, ⟨?_, ?_, trivial⟩, rfl, ?_, ?_⟩
                · rfl
                · refine int_eq ?_; rw [wrap64 (by omega) (by omega)]; omega
                · refine ⟨by show x.1 + 1 ≤ _; omega, ?_⟩
                  rw [← hi.2, hf, drop_get hk, partss, List.all_append, Bool.true_and]
                · show t.kids.length - (x.1 + 1) < _; omega
              · skip
                have hf : x.2 = false := h25
                refine RO.nil ?_
                refine Runs.condF rfl ?_
                refine Runs.exit ?_
                refine thenQ_exit ?_
                refine thenQ_exit ?_
                refine blockQ_here ?_
                refine thenQ_normal ?_
                refine Runs.has [(4, .d (.bool false)), (6, .d (.bool _))] ⟨rfl, rfl, trivial⟩ ?_
                refine Runs.rseq ?_
                refine RO.opv (v' := .d (.bool _)) (opv_move rfl) rfl ?_
                refine RO.opv (v' := .d (.bool _)) (opv_assign rfl) rfl ?_
                refine RO.nil ?_
                refine Runs.ret ?_
                refine EndQ.tmp (.inr rfl) rfl rfl 0 (by exact Nat.le_refl _) (by exact Nat.zero_le _) trivial ⟨?_, rfl⟩
                refine bool_eq ?_
                first
                  | (rw [← hi.2, hf, Bool.false_and]; done)
                  | (rw [← hi.2, hk, List.drop_length]; simp [partss])
            · skip
              have hk : x.1 = t.kids.length := by have := of_decide_eq_false h24; omega
              refine RO.off rfl ?_
              refine RO.opv (v' := .d (.bool false)) (opv_pick rfl rfl) rfl ?_
              refine RO.nil ?_
              refine Runs.condF rfl ?_
              refine Runs.exit ?_
              refine thenQ_exit ?_
              refine thenQ_exit ?_
              refine blockQ_here ?_
              refine thenQ_normal ?_
              refine Runs.has [(4, .d (.bool false)), (6, .d (.bool _))] ⟨rfl, rfl, trivial⟩ ?_
              refine Runs.rseq ?_
              refine RO.opv (v' := .d (.bool _)) (opv_move rfl) rfl ?_
              refine RO.opv (v' := .d (.bool _)) (opv_assign rfl) rfl ?_
              refine RO.nil ?_
              refine Runs.ret ?_
              refine EndQ.tmp (.inr rfl) rfl rfl 0 (by exact Nat.le_refl _) (by exact Nat.zero_le _) trivial ⟨?_, rfl⟩
              refine bool_eq ?_
              first
                | (rw [← hi.2, hf, Bool.false_and]; done)
                | (rw [← hi.2, hk, List.drop_length]; simp [partss])
        · skip
          refine RO.off rfl ?_
          refine RO.off rfl ?_
          refine RO.off rfl ?_
          refine RO.off rfl ?_
          refine RO.opv (v' := .d (.bool false)) (opv_pick rfl rfl) rfl ?_
          refine RO.opv (v' := .d (.bool false)) (opv_move rfl) rfl ?_
          refine RO.off rfl ?_
          refine RO.off rfl ?_
          refine RO.opv (v' := .d (.bool false)) (opv_pick rfl rfl) rfl ?_
          refine RO.opv (v' := .d (.bool false)) (opv_assign rfl) rfl ?_
          refine RO.nil ?_
          refine blockQ_normal ?_
          refine thenQ_normal ?_
          refine Runs.has [(1, .d (.int _ _)), (2, .ref 0 0), (4, .d (.bool false)), (5, .d (.int _ _)), (6, .d (.bool false))] ⟨rfl, rfl, rfl, rfl, rfl, trivial⟩ ?_
          refine Runs.seq ?_
          refine Runs.rseq ?_
          refine RO.opv (v' := .d (.int _ _)) (opv_assign rfl) rfl ?_
          refine RO.nil ?_
          refine Runs.block ?_
          refine Runs.loopC (X := (Nat × Bool)) (fun x => x.1 ≤ t.kids.length ∧ (x.2 && (partss (t.kids.drop x.1)).all (alone lv)) = t.parts.all (alone lv)) (fun x => t.kids.length - x.1) [(1, .d (.int _ _)), (2, .ref 0 0), (4, .d (.bool false)), (5, .d (.int _ _))] (fun x => [(6, .d (.bool x.2)), (7, .d (.int .i64 (x.1 : Nat)))]) [_] (fun x => []) (((0 : Nat), alone lv t)) ⟨rfl, rfl, rfl, rfl, trivial⟩ ⟨(by refine bool_eq ?_; first | (simp only [alone, *, cond_true, cond_false, Bool.true_and, Bool.false_and]; done) | (simp only [alone, *, cond_true, cond_false, Bool.true_and, Bool.false_and]; rw [List.getElem?_eq_getElem (by omega)]; rfl)), rfl, trivial⟩ rfl ⟨Nat.zero_le _, by rw [List.drop_zero, t.parts_kids, List.all_cons]⟩ fun x hi => ?_
          refine Runs.seq ?_
          refine Runs.rseq ?_
          refine RO.opv (v' := .d (.int _ _)) (opv_move rfl) rfl ?_
          refine RO.opv (v' := .d (.int _ _)) (opv_move rfl) rfl ?_
          refine RO.opv (v' := .d (.bool _)) (opv_bin rfl rfl rfl) rfl ?_
          refine RO.opc (opv_move rfl) (fun h26 => ?_) (fun h26 => ?_)
          · skip
            have hk : x.1 < t.kids.length := by have := of_decide_eq_true h26; omega
            refine RO.opgv (v' := .d (.bool _)) rfl (opv_move rfl) rfl ?_
            refine RO.opc (opv_pick rfl rfl) (fun h27 => ?_) (fun h27 => ?_)
            · skip
              have hf : x.2 = true := h27
              refine RO.nil ?_
              refine Runs.condT rfl ?_
              refine Runs.skip ?_
              refine thenQ_normal ?_
              refine Runs.has [(1, .d (.int _ _)), (2, .ref 0 0), (4, .d (.bool false)), (5, .d (.int _ _)), (6, .d (.bool _)), (7, .d (.int _ _))] ⟨rfl, rfl, rfl, rfl, rfl, rfl, trivial⟩ ?_
              refine Runs.seq ?_
              refine Runs.block ?_
              refine Runs.region ?_
              refine RO.opv (v' := .ref 0 3) (opv_field_ref rfl rfl) rfl ?_
              refine RO.opv (v' := .d (.list (encs _))) (opv_load_ref rfl rfl rfl) rfl ?_
              refine RO.opv (v' := .d (.int _ _)) (opv_move rfl) rfl ?_
              refine RO.opv (v' := .d (.ptr _)) (opv_index_terms rfl rfl (by omega)) rfl ?_
              refine RO.opv (v' := .d (enc _)) (opv_load_pterm rfl) rfl ?_
              refine RO.opv (v' := .d (.int _ _)) (opv_move rfl) rfl ?_
              refine RO.opv (v' := .d (.bool _)) (opv_callF (ih t.kids[x.1] lv (by have := sizes_mem (List.getElem_mem hk); omega) (by have := bulks_mem (List.getElem_mem hk); omega)) rfl rfl rfl trivial) rfl ?_
              refine RO.opv (v' := .d (.bool _)) (opv_assign rfl) rfl ?_
              refine RO.nil ?_
              refine blockQ_normal ?_
              refine thenQ_normal ?_
              refine Runs.has [(1, .d (.int _ _)), (2, .ref 0 0), (4, .d (.bool false)), (5, .d (.int _ _)), (6, .d (.bool _)), (7, .d (.int _ _))] ⟨rfl, rfl, rfl, rfl, rfl, rfl, trivial⟩ ?_
              refine Runs.region ?_
              refine RO.opv (v' := .d (.int _ _)) (opv_move rfl) rfl ?_
              refine RO.opv (v' := .d (.int _ _)) (opv_bin rfl rfl rfl) rfl ?_
              refine RO.opv (v' := .d (.int _ _)) (opv_assign rfl) rfl ?_
              refine RO.nil ?_
              refine thenQ_normal ?_
              refine ⟨(x.1 + 1, t.kids[x.1].parts.all (alone lv)), 1, (by rw [hK]; exact Nat.le_of_ble_eq_true rfl), ⟨rfl, rfl, rfl, rfl, trivial⟩, ⟨?_, ?_, trivial⟩, rfl, ?_, ?_⟩
              · rfl
              · refine int_eq ?_; rw [wrap64 (by omega) (by omega)]; omega
              · refine ⟨by show x.1 + 1 ≤ _; omega, ?_⟩
                rw [← hi.2, hf, drop_get hk, partss, List.all_append, Bool.true_and]
              · show t.kids.length - (x.1 + 1) < _; omega
            · skip
              have hf : x.2 = false := h27
              refine RO.nil ?_
              refine Runs.condF rfl ?_
              refine Runs.exit ?_
              refine thenQ_exit ?_
              refine thenQ_exit ?_
              refine blockQ_here ?_
              refine thenQ_normal ?_
              refine Runs.has [(4, .d (.bool false)), (6, .d (.bool _))] ⟨rfl, rfl, trivial⟩ ?_
              refine Runs.rseq ?_
              refine RO.opv (v' := .d (.bool _)) (opv_move rfl) rfl ?_
              refine RO.opv (v' := .d (.bool _)) (opv_assign rfl) rfl ?_
              refine RO.nil ?_
              refine Runs.ret ?_
              refine EndQ.tmp (.inr rfl) rfl rfl 0 (by exact Nat.le_refl _) (by exact Nat.zero_le _) trivial ⟨?_, rfl⟩
              refine bool_eq ?_
              first
                | (rw [← hi.2, hf, Bool.false_and]; done)
                | (rw [← hi.2, hk, List.drop_length]; simp [partss])
          · skip
            have hk : x.1 = t.kids.length := by have := of_decide_eq_false h26; omega
            refine RO.off rfl ?_
            refine RO.opv (v' := .d (.bool false)) (opv_pick rfl rfl) rfl ?_
            refine RO.nil ?_
            refine Runs.condF rfl ?_
            refine Runs.exit ?_
            refine thenQ_exit ?_
            refine thenQ_exit ?_
            refine blockQ_here ?_
            refine thenQ_normal ?_
            refine Runs.has [(4, .d (.bool false)), (6, .d (.bool _))] ⟨rfl, rfl, trivial⟩ ?_
            refine Runs.rseq ?_
            refine RO.opv (v' := .d (.bool _)) (opv_move rfl) rfl ?_
            refine RO.opv (v' := .d (.bool _)) (opv_assign rfl) rfl ?_
            refine RO.nil ?_
            refine Runs.ret ?_
            refine EndQ.tmp (.inr rfl) rfl rfl 0 (by exact Nat.le_refl _) (by exact Nat.zero_le _) trivial ⟨?_, rfl⟩
            refine bool_eq ?_
            first
              | (rw [← hi.2, hf, Bool.false_and]; done)
              | (rw [← hi.2, hk, List.drop_length]; simp [partss])
      · skip
        refine RO.nil ?_
        refine Runs.condF rfl ?_
        refine Runs.has [(1, .d (.int _ _)), (2, .ref 0 0), (4, .d (.bool false)), (5, .d (.int _ _)), (6, .d (.bool false)), (12, .d (.int _ _))] ⟨rfl, rfl, rfl, rfl, rfl, rfl, trivial⟩ ?_
        refine Runs.rseq ?_
        refine RO.opv (v' := .d (.bool _)) (opv_bin rfl rfl rfl) rfl ?_
        refine RO.opc (opv_assign rfl) (fun h28 => ?_) (fun h28 => ?_)
        · skip
          refine RO.nil ?_
          refine Runs.condT rfl ?_
          refine Runs.has [(1, .d (.int _ _)), (2, .ref 0 0), (4, .d (.bool false)), (5, .d (.int _ _)), (6, .d (.bool false))] ⟨rfl, rfl, rfl, rfl, rfl, trivial⟩ ?_
          refine Runs.rseq ?_
          refine RO.opv (v' := .ref 0 2) (opv_field_ref rfl rfl) rfl ?_
          refine RO.opv (v' := .d (.str _)) (opv_load_ref rfl rfl rfl) rfl ?_
          refine RO.opv (v' := .d (.bool _)) (opv_bin rfl rfl rfl) rfl ?_
          refine RO.opc (opv_move rfl) (fun h29 => ?_) (fun h29 => ?_)
          · skip
            refine RO.opgv (v' := .ref 0 1) rfl (opv_field_ref rfl rfl) rfl ?_
            refine RO.opgv (v' := .d (.int _ _)) rfl (opv_load_ref rfl rfl rfl) rfl ?_
            refine RO.opgv (v' := .d (.bool _)) rfl (opv_bin rfl rfl rfl) rfl ?_
            refine RO.opv (v' := .d (.bool _)) (opv_pick rfl rfl) rfl ?_
            refine RO.opc (opv_move rfl) (fun h30 => ?_) (fun h30 => ?_)
            · skip
              refine RO.opgv (v' := .ref 0 1) rfl (opv_field_ref rfl rfl) rfl ?_
              refine RO.opgv (v' := .d (.int _ _)) rfl (opv_load_ref rfl rfl rfl) rfl ?_
              refine RO.opgv (v' := .d (.int _ _)) rfl (opv_move rfl) rfl ?_
              refine RO.opgv (v' := .d (.bool _)) rfl (opv_bin rfl rfl rfl) rfl ?_
              refine RO.opv (v' := .d (.bool _)) (opv_pick rfl rfl) rfl ?_
              refine RO.opc (opv_move rfl) (fun h31 => ?_) (fun h31 => ?_)
              · skip
                refine RO.opgv (v' := .d (.int _ _)) rfl (opv_move rfl) rfl ?_
                refine RO.opgv (v' := .d (.bool _)) rfl (opv_bin rfl rfl rfl) rfl ?_
                refine RO.opv (v' := .d (.bool _)) (opv_pick rfl rfl) rfl ?_
                refine RO.opv (v' := .d (.bool _)) (opv_assign rfl) rfl ?_
                refine RO.nil ?_
                refine Runs.has [(1, .d (.int _ _)), (2, .ref 0 0), (4, .d (.bool false)), (5, .d (.int _ _)), (6, .d (.bool _))] ⟨rfl, rfl, rfl, rfl, rfl, trivial⟩ ?_
                refine Runs.rseq ?_
                refine RO.opc (opv_move rfl) (fun h32 => ?_) (fun h32 => ?_)
                · skip
                  have hk1 : t.kids.length = 1 := by have := h32; simp at this; omega
                  refine RO.nil ?_
                  refine Runs.condT rfl ?_
                  refine Runs.has [(1, .d (.int _ _)), (2, .ref 0 0), (4, .d (.bool false)), (5, .d (.int _ _)), (6, .d (.bool _))] ⟨rfl, rfl, rfl, rfl, rfl, trivial⟩ ?_
                  refine Runs.region ?_
                  refine RO.opv (v' := .ref 0 3) (opv_field_ref rfl rfl) rfl ?_
                  refine RO.opv (v' := .d (.list (encs _))) (opv_load_ref rfl rfl rfl) rfl ?_
                  refine RO.opv (v' := .d (.ptr _)) (opv_index_terms (i := 0) rfl rfl (by omega)) rfl ?_
                  refine RO.opv (v' := .d (enc _)) (opv_load_pterm rfl) rfl ?_
                  refine RO.opv (v' := .d (.list (ints _))) (opv_callF (rvars_fn t.kids[0] (by have := bulks_mem (List.getElem_mem (l := t.kids) (n := 0) (by omega)); omega)) rfl rfl rfl trivial) rfl ?_
                  refine RO.opv (v' := .d (.int _ _)) (opv_len_ints rfl) rfl ?_
                  refine RO.opv (v' := .d (.bool _)) (opv_bin rfl rfl rfl) rfl ?_
                  refine RO.opv (v' := .d (.bool _)) (opv_assign rfl) rfl ?_
                  refine RO.nil ?_
                  refine blockQ_normal ?_
                  refine thenQ_normal ?_
                  refine Runs.has [(1, .d (.int _ _)), (2, .ref 0 0), (4, .d (.bool false)), (5, .d (.int _ _)), (6, .d (.bool _))] ⟨rfl, rfl, rfl, rfl, rfl, trivial⟩ ?_
                  refine Runs.seq ?_
                  refine Runs.rseq ?_
                  refine RO.opv (v' := .d (.int _ _)) (opv_assign rfl) rfl ?_
                  refine RO.nil ?_
                  refine Runs.block ?_
                  refine Runs.loopC (X := (Nat × Bool)) (fun x => x.1 ≤ t.kids.length ∧ (x.2 && (partss (t.kids.drop x.1)).all (alone lv)) = t.parts.all (alone lv)) (fun x => t.kids.length - x.1) [(1, .d (.int _ _)), (2, .ref 0 0), (4, .d (.bool false)), (5, .d (.int _ _))] (fun x => [(6, .d (.bool x.2)), (7, .d (.int .i64 (x.1 : Nat)))]) [_] (fun x => []) (((0 : Nat), alone lv t)) ⟨rfl, rfl, rfl, rfl, trivial⟩ ⟨(by refine bool_eq ?_; first | (simp only [alone, *, cond_true, cond_false, Bool.true_and, Bool.false_and]; done) | (simp only [alone, *, cond_true, cond_false, Bool.true_and, Bool.false_and]; rw [List.getElem?_eq_getElem (by omega)]; rfl)), rfl, trivial⟩ rfl ⟨Nat.zero_le _, by rw [List.drop_zero, t.parts_kids, List.all_cons]⟩ fun x hi => ?_
                  refine Runs.seq ?_
                  refine Runs.rseq ?_
                  refine RO.opv (v' := .d (.int _ _)) (opv_move rfl) rfl ?_
                  refine RO.opv (v' := .d (.int _ _)) (opv_move rfl) rfl ?_
                  refine RO.opv (v' := .d (.bool _)) (opv_bin rfl rfl rfl) rfl ?_
                  refine RO.opc (opv_move rfl) (fun h33 => ?_) (fun h33 => ?_)
                  · skip
                    have hk : x.1 < t.kids.length := by have := of_decide_eq_true h33; omega
                    refine RO.opgv (v' := .d (.bool _)) rfl (opv_move rfl) rfl ?_
                    refine RO.opc (opv_pick rfl rfl) (fun h34 => ?_) (fun h34 => ?_)
                    · skip
                      have hf : x.2 = true := h34
                      refine RO.nil ?_
                      refine Runs.condT rfl ?_
                      refine Runs.skip ?_
                      refine thenQ_normal ?_
                      refine Runs.has [(1, .d (.int _ _)), (2, .ref 0 0), (4, .d (.bool false)), (5, .d (.int _ _)), (6, .d (.bool _)), (7, .d (.int _ _))] ⟨rfl, rfl, rfl, rfl, rfl, rfl, trivial⟩ ?_
                      refine Runs.seq ?_
                      refine Runs.block ?_
                      refine Runs.region ?_
                      refine RO.opv (v' := .ref 0 3) (opv_field_ref rfl rfl) rfl ?_
                      refine RO.opv (v' := .d (.list (encs _))) (opv_load_ref rfl rfl rfl) rfl ?_
                      refine RO.opv (v' := .d (.int _ _)) (opv_move rfl) rfl ?_
                      refine RO.opv (v' := .d (.ptr _)) (opv_index_terms rfl rfl (by omega)) rfl ?_
                      refine RO.opv (v' := .d (enc _)) (opv_load_pterm rfl) rfl ?_
                      refine RO.opv (v' := .d (.int _ _)) (opv_move rfl) rfl ?_
                      refine RO.opv (v' := .d (.bool _)) (opv_callF (ih t.kids[x.1] lv (by have := sizes_mem (List.getElem_mem hk); omega) (by have := bulks_mem (List.getElem_mem hk); omega)) rfl rfl rfl trivial) rfl ?_
                      refine RO.opv (v' := .d (.bool _)) (opv_assign rfl) rfl ?_
                      refine RO.nil ?_
                      refine blockQ_normal ?_
                      refine thenQ_normal ?_
                      refine Runs.has [(1, .d (.int _ _)), (2, .ref 0 0), (4, .d (.bool false)), (5, .d (.int _ _)), (6, .d (.bool _)), (7, .d (.int _ _))] ⟨rfl, rfl, rfl, rfl, rfl, rfl, trivial⟩ ?_
                      refine Runs.region ?_
                      refine RO.opv (v' := .d (.int _ _)) (opv_move rfl) rfl ?_
                      refine RO.opv (v' := .d (.int _ _)) (opv_bin rfl rfl rfl) rfl ?_
                      refine RO.opv (v' := .d (.int _ _)) (opv_assign rfl) rfl ?_
                      refine RO.nil ?_
                      refine thenQ_normal ?_
                      refine ⟨(x.1 + 1, t.kids[x.1].parts.all (alone lv)), 1, (by rw [hK]; exact Nat.le_of_ble_eq_true rfl), ⟨rfl, rfl, rfl, rfl, trivial⟩, ⟨?_, ?_, trivial⟩, rfl, ?_, ?_⟩
                      · rfl
                      · refine int_eq ?_; rw [wrap64 (by omega) (by omega)]; omega
                      · refine ⟨by show x.1 + 1 ≤ _; omega, ?_⟩
                        rw [← hi.2, hf, drop_get hk, partss, List.all_append, Bool.true_and]
                      · show t.kids.length - (x.1 + 1) < _; omega
                    · skip
                      have hf : x.2 = false := h34
                      refine RO.nil ?_
                      refine Runs.condF rfl ?_
                      refine Runs.exit ?_
                      refine thenQ_exit ?_
                      refine thenQ_exit ?_
                      refine blockQ_here ?_
                      refine thenQ_normal ?_
                      refine Runs.has [(4, .d (.bool false)), (6, .d (.bool _))] ⟨rfl, rfl, trivial⟩ ?_
                      refine Runs.rseq ?_
                      refine RO.opv (v' := .d (.bool _)) (opv_move rfl) rfl ?_
                      refine RO.opv (v' := .d (.bool _)) (opv_assign rfl) rfl ?_
                      refine RO.nil ?_
                      refine Runs.ret ?_
                      refine EndQ.tmp (.inr rfl) rfl rfl 0 (by exact Nat.le_refl _) (by exact Nat.zero_le _) trivial ⟨?_, rfl⟩
                      refine bool_eq ?_
                      first
                        | (rw [← hi.2, hf, Bool.false_and]; done)
                        | (rw [← hi.2, hk, List.drop_length]; simp [partss])
                  · skip
                    have hk : x.1 = t.kids.length := by have := of_decide_eq_false h33; omega
                    refine RO.off rfl ?_
                    refine RO.opv (v' := .d (.bool false)) (opv_pick rfl rfl) rfl ?_
                    refine RO.nil ?_
                    refine Runs.condF rfl ?_
                    refine Runs.exit ?_
                    refine thenQ_exit ?_
                    refine thenQ_exit ?_
                    refine blockQ_here ?_
                    refine thenQ_normal ?_
                    refine Runs.has [(4, .d (.bool false)), (6, .d (.bool _))] ⟨rfl, rfl, trivial⟩ ?_
                    refine Runs.rseq ?_
                    refine RO.opv (v' := .d (.bool _)) (opv_move rfl) rfl ?_
                    refine RO.opv (v' := .d (.bool _)) (opv_assign rfl) rfl ?_
                    refine RO.nil ?_
                    refine Runs.ret ?_
                    refine EndQ.tmp (.inr rfl) rfl rfl 0 (by exact Nat.le_refl _) (by exact Nat.zero_le _) trivial ⟨?_, rfl⟩
                    refine bool_eq ?_
                    first
                      | (rw [← hi.2, hf, Bool.false_and]; done)
                      | (rw [← hi.2, hk, List.drop_length]; simp [partss])
                · skip
                  skip
                  refine RO.nil ?_
                  refine Runs.condF rfl ?_
                  refine Runs.skip ?_
                  refine blockQ_normal ?_
                  refine thenQ_normal ?_
                  refine Runs.has [(1, .d (.int _ _)), (2, .ref 0 0), (4, .d (.bool false)), (5, .d (.int _ _)), (6, .d (.bool _))] ⟨rfl, rfl, rfl, rfl, rfl, trivial⟩ ?_
                  refine Runs.seq ?_
                  refine Runs.rseq ?_
                  refine RO.opv (v' := .d (.int _ _)) (opv_assign rfl) rfl ?_
                  refine RO.nil ?_
                  refine Runs.block ?_
                  refine Runs.loopC (X := (Nat × Bool)) (fun x => x.1 ≤ t.kids.length ∧ (x.2 && (partss (t.kids.drop x.1)).all (alone lv)) = t.parts.all (alone lv)) (fun x => t.kids.length - x.1) [(1, .d (.int _ _)), (2, .ref 0 0), (4, .d (.bool false)), (5, .d (.int _ _))] (fun x => [(6, .d (.bool x.2)), (7, .d (.int .i64 (x.1 : Nat)))]) [_] (fun x => []) (((0 : Nat), alone lv t)) ⟨rfl, rfl, rfl, rfl, trivial⟩ ⟨(by refine bool_eq ?_; first | (simp only [alone, *, cond_true, cond_false, Bool.true_and, Bool.false_and]; done) | (simp only [alone, *, cond_true, cond_false, Bool.true_and, Bool.false_and]; rw [List.getElem?_eq_getElem (by omega)]; rfl)), rfl, trivial⟩ rfl ⟨Nat.zero_le _, by rw [List.drop_zero, t.parts_kids, List.all_cons]⟩ fun x hi => ?_
                  refine Runs.seq ?_
                  refine Runs.rseq ?_
                  refine RO.opv (v' := .d (.int _ _)) (opv_move rfl) rfl ?_
                  refine RO.opv (v' := .d (.int _ _)) (opv_move rfl) rfl ?_
                  refine RO.opv (v' := .d (.bool _)) (opv_bin rfl rfl rfl) rfl ?_
                  refine RO.opc (opv_move rfl) (fun h35 => ?_) (fun h35 => ?_)
                  · skip
                    have hk : x.1 < t.kids.length := by have := of_decide_eq_true h35; omega
                    refine RO.opgv (v' := .d (.bool _)) rfl (opv_move rfl) rfl ?_
                    refine RO.opc (opv_pick rfl rfl) (fun h36 => ?_) (fun h36 => ?_)
                    · skip
                      have hf : x.2 = true := h36
                      refine RO.nil ?_
                      refine Runs.condT rfl ?_
                      refine Runs.skip ?_
                      refine thenQ_normal ?_
                      refine Runs.has [(1, .d (.int _ _)), (2, .ref 0 0), (4, .d (.bool false)), (5, .d (.int _ _)), (6, .d (.bool _)), (7, .d (.int _ _))] ⟨rfl, rfl, rfl, rfl, rfl, rfl, trivial⟩ ?_
                      refine Runs.seq ?_
                      refine Runs.block ?_
                      refine Runs.region ?_
                      refine RO.opv (v' := .ref 0 3) (opv_field_ref rfl rfl) rfl ?_
                      refine RO.opv (v' := .d (.list (encs _))) (opv_load_ref rfl rfl rfl) rfl ?_
                      refine RO.opv (v' := .d (.int _ _)) (opv_move rfl) rfl ?_
                      refine RO.opv (v' := .d (.ptr _)) (opv_index_terms rfl rfl (by omega)) rfl ?_
                      refine RO.opv (v' := .d (enc _)) (opv_load_pterm rfl) rfl ?_
                      refine RO.opv (v' := .d (.int _ _)) (opv_move rfl) rfl ?_
                      refine RO.opv (v' := .d (.bool _)) (opv_callF (ih t.kids[x.1] lv (by have := sizes_mem (List.getElem_mem hk); omega) (by have := bulks_mem (List.getElem_mem hk); omega)) rfl rfl rfl trivial) rfl ?_
                      refine RO.opv (v' := .d (.bool _)) (opv_assign rfl) rfl ?_
                      refine RO.nil ?_
                      refine blockQ_normal ?_
                      refine thenQ_normal ?_
                      refine Runs.has [(1, .d (.int _ _)), (2, .ref 0 0), (4, .d (.bool false)), (5, .d (.int _ _)), (6, .d (.bool _)), (7, .d (.int _ _))] ⟨rfl, rfl, rfl, rfl, rfl, rfl, trivial⟩ ?_
                      refine Runs.region ?_
                      refine RO.opv (v' := .d (.int _ _)) (opv_move rfl) rfl ?_
                      refine RO.opv (v' := .d (.int _ _)) (opv_bin rfl rfl rfl) rfl ?_
                      refine RO.opv (v' := .d (.int _ _)) (opv_assign rfl) rfl ?_
                      refine RO.nil ?_
                      refine thenQ_normal ?_
                      refine ⟨(x.1 + 1, t.kids[x.1].parts.all (alone lv)), 1, (by rw [hK]; exact Nat.le_of_ble_eq_true rfl), ⟨rfl, rfl, rfl, rfl, trivial⟩, ⟨?_, ?_, trivial⟩, rfl, ?_, ?_⟩
                      · rfl
                      · refine int_eq ?_; rw [wrap64 (by omega) (by omega)]; omega
                      · refine ⟨by show x.1 + 1 ≤ _; omega, ?_⟩
                        rw [← hi.2, hf, drop_get hk, partss, List.all_append, Bool.true_and]
                      · show t.kids.length - (x.1 + 1) < _; omega
                    · skip
                      have hf : x.2 = false := h36
                      refine RO.nil ?_
                      refine Runs.condF rfl ?_
                      refine Runs.exit ?_
                      refine thenQ_exit ?_
                      refine thenQ_exit ?_
                      refine blockQ_here ?_
                      refine thenQ_normal ?_
                      refine Runs.has [(4, .d (.bool false)), (6, .d (.bool _))] ⟨rfl, rfl, trivial⟩ ?_
                      refine Runs.rseq ?_
                      refine RO.opv (v' := .d (.bool _)) (opv_move rfl) rfl ?_
                      refine RO.opv (v' := .d (.bool _)) (opv_assign rfl) rfl ?_
                      refine RO.nil ?_
                      refine Runs.ret ?_
                      refine EndQ.tmp (.inr rfl) rfl rfl 0 (by exact Nat.le_refl _) (by exact Nat.zero_le _) trivial ⟨?_, rfl⟩
                      refine bool_eq ?_
                      first
                        | (rw [← hi.2, hf, Bool.false_and]; done)
                        | (rw [← hi.2, hk, List.drop_length]; simp [partss])
                  · skip
                    have hk : x.1 = t.kids.length := by have := of_decide_eq_false h35; omega
                    refine RO.off rfl ?_
                    refine RO.opv (v' := .d (.bool false)) (opv_pick rfl rfl) rfl ?_
                    refine RO.nil ?_
                    refine Runs.condF rfl ?_
                    refine Runs.exit ?_
                    refine thenQ_exit ?_
                    refine thenQ_exit ?_
                    refine blockQ_here ?_
                    refine thenQ_normal ?_
                    refine Runs.has [(4, .d (.bool false)), (6, .d (.bool _))] ⟨rfl, rfl, trivial⟩ ?_
                    refine Runs.rseq ?_
                    refine RO.opv (v' := .d (.bool _)) (opv_move rfl) rfl ?_
                    refine RO.opv (v' := .d (.bool _)) (opv_assign rfl) rfl ?_
                    refine RO.nil ?_
                    refine Runs.ret ?_
                    refine EndQ.tmp (.inr rfl) rfl rfl 0 (by exact Nat.le_refl _) (by exact Nat.zero_le _) trivial ⟨?_, rfl⟩
                    refine bool_eq ?_
                    first
                      | (rw [← hi.2, hf, Bool.false_and]; done)
                      | (rw [← hi.2, hk, List.drop_length]; simp [partss])
              · skip
                refine RO.off rfl ?_
                refine RO.off rfl ?_
                refine RO.opv (v' := .d (.bool false)) (opv_pick rfl rfl) rfl ?_
                refine RO.opv (v' := .d (.bool false)) (opv_assign rfl) rfl ?_
                refine RO.nil ?_
                refine Runs.has [(1, .d (.int _ _)), (2, .ref 0 0), (4, .d (.bool false)), (5, .d (.int _ _)), (6, .d (.bool false))] ⟨rfl, rfl, rfl, rfl, rfl, trivial⟩ ?_
                refine Runs.rseq ?_
                refine RO.opv (v' := .d (.bool false)) (opv_move rfl) rfl ?_
                refine RO.nil ?_
                refine Runs.condF rfl ?_
                refine Runs.skip ?_
                refine blockQ_normal ?_
                refine thenQ_normal ?_
                refine Runs.has [(1, .d (.int _ _)), (2, .ref 0 0), (4, .d (.bool false)), (5, .d (.int _ _)), (6, .d (.bool false))] ⟨rfl, rfl, rfl, rfl, rfl, trivial⟩ ?_
                refine Runs.seq ?_
                refine Runs.rseq ?_
                refine RO.opv (v' := .d (.int _ _)) (opv_assign rfl) rfl ?_
                refine RO.nil ?_
                refine Runs.block ?_
                refine Runs.loopC (X := (Nat × Bool)) (fun x => x.1 ≤ t.kids.length ∧ (x.2 && (partss (t.kids.drop x.1)).all (alone lv)) = t.parts.all (alone lv)) (fun x => t.kids.length - x.1) [(1, .d (.int _ _)), (2, .ref 0 0), (4, .d (.bool false)), (5, .d (.int _ _))] (fun x => [(6, .d (.bool x.2)), (7, .d (.int .i64 (x.1 : Nat)))]) [_] (fun x => []) (((0 : Nat), alone lv t)) ⟨rfl, rfl, rfl, rfl, trivial⟩ ⟨(by refine bool_eq ?_; first | (simp only [alone, *, cond_true, cond_false, Bool.true_and, Bool.false_and]; done) | (simp only [alone, *, cond_true, cond_false, Bool.true_and, Bool.false_and]; rw [List.getElem?_eq_getElem (by omega)]; rfl)), rfl, trivial⟩ rfl ⟨Nat.zero_le _, by rw [List.drop_zero, t.parts_kids, List.all_cons]⟩ fun x hi => ?_
                refine Runs.seq ?_
                refine Runs.rseq ?_
                refine RO.opv (v' := .d (.int _ _)) (opv_move rfl) rfl ?_
                refine RO.opv (v' := .d (.int _ _)) (opv_move rfl) rfl ?_
                refine RO.opv (v' := .d (.bool _)) (opv_bin rfl rfl rfl) rfl ?_
                refine RO.opc (opv_move rfl) (fun h37 => ?_) (fun h37 => ?_)
                · skip
                  have hk : x.1 < t.kids.length := by have := of_decide_eq_true h37; omega
                  refine RO.opgv (v' := .d (.bool _)) rfl (opv_move rfl) rfl ?_
                  refine RO.opc (opv_pick rfl rfl) (fun h38 => ?_) (fun h38 => ?_)
                  · skip
                    have hf : x.2 = true := h38
                    refine RO.nil ?_
                    refine Runs.condT rfl ?_
                    refine Runs.skip ?_
                    refine thenQ_normal ?_
                    refine Runs.has [(1, .d (.int _ _)), (2, .ref 0 0), (4, .d (.bool false)), (5, .d (.int _ _)), (6, .d (.bool _)), (7, .d (.int _ _))] ⟨rfl, rfl, rfl, rfl, rfl, rfl, trivial⟩ ?_
                    refine Runs.seq ?_
                    refine Runs.block ?_
                    refine Runs.region ?_
                    refine RO.opv (v' := .ref 0 3) (opv_field_ref rfl rfl) rfl ?_
                    refine RO.opv (v' := .d (.list (encs _))) (opv_load_ref rfl rfl rfl) rfl ?_
                    refine RO.opv (v' := .d (.int _ _)) (opv_move rfl) rfl ?_
                    refine RO.opv (v' := .d (.ptr _)) (opv_index_terms rfl rfl (by omega)) rfl ?_
                    refine RO.opv (v' := .d (enc _)) (opv_load_pterm rfl) rfl ?_
                    refine RO.opv (v' := .d (.int _ _)) (opv_move rfl) rfl ?_
                    refine RO.opv (v' := .d (.bool _)) (opv_callF (ih t.kids[x.1] lv (by have := sizes_mem (List.getElem_mem hk); omega) (by have := bulks_mem (List.getElem_mem hk); omega)) rfl rfl rfl trivial) rfl ?_
                    refine RO.opv (v' := .d (.bool _)) (opv_assign rfl) rfl ?_
                    refine RO.nil ?_
                    refine blockQ_normal ?_
                    refine thenQ_normal ?_
                    refine Runs.has [(1, .d (.int _ _)), (2, .ref 0 0), (4, .d (.bool false)), (5, .d (.int _ _)), (6, .d (.bool _)), (7, .d (.int _ _))] ⟨rfl, rfl, rfl, rfl, rfl, rfl, trivial⟩ ?_
                    refine Runs.region ?_
                    refine RO.opv (v' := .d (.int _ _)) (opv_move rfl) rfl ?_
                    refine RO.opv (v' := .d (.int _ _)) (opv_bin rfl rfl rfl) rfl ?_
                    refine RO.opv (v' := .d (.int _ _)) (opv_assign rfl) rfl ?_
                    refine RO.nil ?_
                    refine thenQ_normal ?_
                    refine ⟨(x.1 + 1, t.kids[x.1].parts.all (alone lv)), 1, (by rw [hK]; exact Nat.le_of_ble_eq_true rfl), ⟨rfl, rfl, rfl, rfl, trivial⟩, ⟨?_, ?_, trivial⟩, rfl, ?_, ?_⟩
                    · rfl
                    · refine int_eq ?_; rw [wrap64 (by omega) (by omega)]; omega
                    · refine ⟨by show x.1 + 1 ≤ _; omega, ?_⟩
                      rw [← hi.2, hf, drop_get hk, partss, List.all_append, Bool.true_and]
                    · show t.kids.length - (x.1 + 1) < _; omega
                  · skip
                    have hf : x.2 = false := h38
                    refine RO.nil ?_
                    refine Runs.condF rfl ?_
                    refine Runs.exit ?_
                    refine thenQ_exit ?_
                    refine thenQ_exit ?_
                    refine blockQ_here ?_
                    refine thenQ_normal ?_
                    refine Runs.has [(4, .d (.bool false)), (6, .d (.bool _))] ⟨rfl, rfl, trivial⟩ ?_
                    refine Runs.rseq ?_
                    refine RO.opv (v' := .d (.bool _)) (opv_move rfl) rfl ?_
                    refine RO.opv (v' := .d (.bool _)) (opv_assign rfl) rfl ?_
                    refine RO.nil ?_
                    refine Runs.ret ?_
                    refine EndQ.tmp (.inr rfl) rfl rfl 0 (by exact Nat.le_refl _) (by exact Nat.zero_le _) trivial ⟨?_, rfl⟩
                    refine bool_eq ?_
                    first
                      | (rw [← hi.2, hf, Bool.false_and]; done)
                      | (rw [← hi.2, hk, List.drop_length]; simp [partss])
                · skip
                  have hk : x.1 = t.kids.length := by have := of_decide_eq_false h37; omega
                  refine RO.off rfl ?_
                  refine RO.opv (v' := .d (.bool false)) (opv_pick rfl rfl) rfl ?_
                  refine RO.nil ?_
                  refine Runs.condF rfl ?_
                  refine Runs.exit ?_
                  refine thenQ_exit ?_
                  refine thenQ_exit ?_
                  refine blockQ_here ?_
                  refine thenQ_normal ?_
                  refine Runs.has [(4, .d (.bool false)), (6, .d (.bool _))] ⟨rfl, rfl, trivial⟩ ?_
                  refine Runs.rseq ?_
                  refine RO.opv (v' := .d (.bool _)) (opv_move rfl) rfl ?_
                  refine RO.opv (v' := .d (.bool _)) (opv_assign rfl) rfl ?_
                  refine RO.nil ?_
                  refine Runs.ret ?_
                  refine EndQ.tmp (.inr rfl) rfl rfl 0 (by exact Nat.le_refl _) (by exact Nat.zero_le _) trivial ⟨?_, rfl⟩
                  refine bool_eq ?_
                  first
                    | (rw [← hi.2, hf, Bool.false_and]; done)
                    | (rw [← hi.2, hk, List.drop_length]; simp [partss])
            · skip
              refine RO.off rfl ?_
              refine RO.off rfl ?_
              refine RO.off rfl ?_
              refine RO.off rfl ?_
              refine RO.opv (v' := .d (.bool false)) (opv_pick rfl rfl) rfl ?_
              refine RO.opv (v' := .d (.bool false)) (opv_move rfl) rfl ?_
              refine RO.off rfl ?_
              refine RO.off rfl ?_
              refine RO.opv (v' := .d (.bool false)) (opv_pick rfl rfl) rfl ?_
              refine RO.opv (v' := .d (.bool false)) (opv_assign rfl) rfl ?_
              refine RO.nil ?_
              refine Runs.has [(1, .d (.int _ _)), (2, .ref 0 0), (4, .d (.bool false)), (5, .d (.int _ _)), (6, .d (.bool false))] ⟨rfl, rfl, rfl, rfl, rfl, trivial⟩ ?_
              refine Runs.rseq ?_
              refine RO.opv (v' := .d (.bool false)) (opv_move rfl) rfl ?_
              refine RO.nil ?_
              refine Runs.condF rfl ?_
              refine Runs.skip ?_
              refine blockQ_normal ?_
              refine thenQ_normal ?_
              refine Runs.has [(1, .d (.int _ _)), (2, .ref 0 0), (4, .d (.bool false)), (5, .d (.int _ _)), (6, .d (.bool false))] ⟨rfl, rfl, rfl, rfl, rfl, trivial⟩ ?_
              refine Runs.seq ?_
              refine Runs.rseq ?_
              refine RO.opv (v' := .d (.int _ _)) (opv_assign rfl) rfl ?_
              refine RO.nil ?_
              refine Runs.block ?_
              refine Runs.loopC (X := (Nat × Bool)) (fun x => x.1 ≤ t.kids.length ∧ (x.2 && (partss (t.kids.drop x.1)).all (alone lv)) = t.parts.all (alone lv)) (fun x => t.kids.length - x.1) [(1, .d (.int _ _)), (2, .ref 0 0), (4, .d (.bool false)), (5, .d (.int _ _))] (fun x => [(6, .d (.bool x.2)), (7, .d (.int .i64 (x.1 : Nat)))]) [_] (fun x => []) (((0 : Nat), alone lv t)) ⟨rfl, rfl, rfl, rfl, trivial⟩ ⟨(by refine bool_eq ?_; first | (simp only [alone, *, cond_true, cond_false, Bool.true_and, Bool.false_and]; done) | (simp only [alone, *, cond_true, cond_false, Bool.true_and, Bool.false_and]; rw [List.getElem?_eq_getElem (by omega)]; rfl)), rfl, trivial⟩ rfl ⟨Nat.zero_le _, by rw [List.drop_zero, t.parts_kids, List.all_cons]⟩ fun x hi => ?_
              refine Runs.seq ?_
              refine Runs.rseq ?_
              refine RO.opv (v' := .d (.int _ _)) (opv_move rfl) rfl ?_
              refine RO.opv (v' := .d (.int _ _)) (opv_move rfl) rfl ?_
              refine RO.opv (v' := .d (.bool _)) (opv_bin rfl rfl rfl) rfl ?_
              refine RO.opc (opv_move rfl) (fun h39 => ?_) (fun h39 => ?_)
              · skip
                have hk : x.1 < t.kids.length := by have := of_decide_eq_true h39; omega
                refine RO.opgv (v' := .d (.bool _)) rfl (opv_move rfl) rfl ?_
                refine RO.opc (opv_pick rfl rfl) (fun h40 => ?_) (fun h40 => ?_)
                · skip
                  have hf : x.2 = true := h40
                  refine RO.nil ?_
                  refine Runs.condT rfl ?_
                  refine Runs.skip ?_
                  refine thenQ_normal ?_
                  refine Runs.has [(1, .d (.int _ _)), (2, .ref 0 0), (4, .d (.bool false)), (5, .d (.int _ _)), (6, .d (.bool _)), (7, .d (.int _ _))] ⟨rfl, rfl, rfl, rfl, rfl, rfl, trivial⟩ ?_
                  refine Runs.seq ?_
                  refine Runs.block ?_
                  refine Runs.region ?_
                  refine RO.opv (v' := .ref 0 3) (opv_field_ref rfl rfl) rfl ?_
                  refine RO.opv (v' := .d (.list (encs _))) (opv_load_ref rfl rfl rfl) rfl ?_
                  refine RO.opv (v' := .d (.int _ _)) (opv_move rfl) rfl ?_
                  refine RO.opv (v' := .d (.ptr _)) (opv_index_terms rfl rfl (by omega)) rfl ?_
                  refine RO.opv (v' := .d (enc _)) (opv_load_pterm rfl) rfl ?_
                  refine RO.opv (v' := .d (.int _ _)) (opv_move rfl) rfl ?_
                  refine RO.opv (v' := .d (.bool _)) (opv_callF (ih t.kids[x.1] lv (by have := sizes_mem (List.getElem_mem hk); omega) (by have := bulks_mem (List.getElem_mem hk); omega)) rfl rfl rfl trivial) rfl ?_
                  refine RO.opv (v' := .d (.bool _)) (opv_assign rfl) rfl ?_
                  refine RO.nil ?_
                  refine blockQ_normal ?_
                  refine thenQ_normal ?_
                  refine Runs.has [(1, .d (.int _ _)), (2, .ref 0 0), (4, .d (.bool false)), (5, .d (.int _ _)), (6, .d (.bool _)), (7, .d (.int _ _))] ⟨rfl, rfl, rfl, rfl, rfl, rfl, trivial⟩ ?_
                  refine Runs.region ?_
                  refine RO.opv (v' := .d (.int _ _)) (opv_move rfl) rfl ?_
                  refine RO.opv (v' := .d (.int _ _)) (opv_bin rfl rfl rfl) rfl ?_
                  refine RO.opv (v' := .d (.int _ _)) (opv_assign rfl) rfl ?_
                  refine RO.nil ?_
                  refine thenQ_normal ?_
                  refine ⟨(x.1 + 1, t.kids[x.1].parts.all (alone lv)), 1, (by rw [hK]; exact Nat.le_of_ble_eq_true rfl), ⟨rfl, rfl, rfl, rfl, trivial⟩, ⟨?_, ?_, trivial⟩, rfl, ?_, ?_⟩
                  · rfl
                  · refine int_eq ?_; rw [wrap64 (by omega) (by omega)]; omega
                  · refine ⟨by show x.1 + 1 ≤ _; omega, ?_⟩
                    rw [← hi.2, hf, drop_get hk, partss, List.all_append, Bool.true_and]
                  · show t.kids.length - (x.1 + 1) < _; omega
                · skip
                  have hf : x.2 = false := h40
                  refine RO.nil ?_
                  refine Runs.condF rfl ?_
                  refine Runs.exit ?_
                  refine thenQ_exit ?_
                  refine thenQ_exit ?_
                  refine blockQ_here ?_
                  refine thenQ_normal ?_
                  refine Runs.has [(4, .d (.bool false)), (6, .d (.bool _))] ⟨rfl, rfl, trivial⟩ ?_
                  refine Runs.rseq ?_
                  refine RO.opv (v' := .d (.bool _)) (opv_move rfl) rfl ?_
                  refine RO.opv (v' := .d (.bool _)) (opv_assign rfl) rfl ?_
                  refine RO.nil ?_
                  refine Runs.ret ?_
                  refine EndQ.tmp (.inr rfl) rfl rfl 0 (by exact Nat.le_refl _) (by exact Nat.zero_le _) trivial ⟨?_, rfl⟩
                  refine bool_eq ?_
                  first
                    | (rw [← hi.2, hf, Bool.false_and]; done)
                    | (rw [← hi.2, hk, List.drop_length]; simp [partss])
              · skip
                have hk : x.1 = t.kids.length := by have := of_decide_eq_false h39; omega
                refine RO.off rfl ?_
                refine RO.opv (v' := .d (.bool false)) (opv_pick rfl rfl) rfl ?_
                refine RO.nil ?_
                refine Runs.condF rfl ?_
                refine Runs.exit ?_
                refine thenQ_exit ?_
                refine thenQ_exit ?_
                refine blockQ_here ?_
                refine thenQ_normal ?_
                refine Runs.has [(4, .d (.bool false)), (6, .d (.bool _))] ⟨rfl, rfl, trivial⟩ ?_
                refine Runs.rseq ?_
                refine RO.opv (v' := .d (.bool _)) (opv_move rfl) rfl ?_
                refine RO.opv (v' := .d (.bool _)) (opv_assign rfl) rfl ?_
                refine RO.nil ?_
                refine Runs.ret ?_
                refine EndQ.tmp (.inr rfl) rfl rfl 0 (by exact Nat.le_refl _) (by exact Nat.zero_le _) trivial ⟨?_, rfl⟩
                refine bool_eq ?_
                first
                  | (rw [← hi.2, hf, Bool.false_and]; done)
                  | (rw [← hi.2, hk, List.drop_length]; simp [partss])
          · skip
            refine RO.off rfl ?_
            refine RO.off rfl ?_
            refine RO.off rfl ?_
            refine RO.opv (v' := .d (.bool false)) (opv_pick rfl rfl) rfl ?_
            refine RO.opv (v' := .d (.bool false)) (opv_move rfl) rfl ?_
            refine RO.off rfl ?_
            refine RO.off rfl ?_
            refine RO.off rfl ?_
            refine RO.off rfl ?_
            refine RO.opv (v' := .d (.bool false)) (opv_pick rfl rfl) rfl ?_
            refine RO.opv (v' := .d (.bool false)) (opv_move rfl) rfl ?_
            refine RO.off rfl ?_
            refine RO.off rfl ?_
            refine RO.opv (v' := .d (.bool false)) (opv_pick rfl rfl) rfl ?_
            refine RO.opv (v' := .d (.bool false)) (opv_assign rfl) rfl ?_
            refine RO.nil ?_
            refine Runs.has [(1, .d (.int _ _)), (2, .ref 0 0), (4, .d (.bool false)), (5, .d (.int _ _)), (6, .d (.bool false))] ⟨rfl, rfl, rfl, rfl, rfl, trivial⟩ ?_
            refine Runs.rseq ?_
            refine RO.opv (v' := .d (.bool false)) (opv_move rfl) rfl ?_
            refine RO.nil ?_
            refine Runs.condF rfl ?_
            refine Runs.skip ?_
            refine blockQ_normal ?_
            refine thenQ_normal ?_
            refine Runs.has [(1, .d (.int _ _)), (2, .ref 0 0), (4, .d (.bool false)), (5, .d (.int _ _)), (6, .d (.bool false))] ⟨rfl, rfl, rfl, rfl, rfl, trivial⟩ ?_
            refine Runs.seq ?_
            refine Runs.rseq ?_
            refine RO.opv (v' := .d (.int _ _)) (opv_assign rfl) rfl ?_
            refine RO.nil ?_
            refine Runs.block ?_
            refine Runs.loopC (X := (Nat × Bool)) (fun x => x.1 ≤ t.kids.length ∧ (x.2 && (partss (t.kids.drop x.1)).all (alone lv)) = t.parts.all (alone lv)) (fun x => t.kids.length - x.1) [(1, .d (.int _ _)), (2, .ref 0 0), (4, .d (.bool false)), (5, .d (.int _ _))] (fun x => [(6, .d (.bool x.2)), (7, .d (.int .i64 (x.1 : Nat)))]) [_] (fun x => []) (((0 : Nat), alone lv t)) ⟨rfl, rfl, rfl, rfl, trivial⟩ ⟨(by refine bool_eq ?_; first | (simp only [alone, *, cond_true, cond_false, Bool.true_and, Bool.false_and]; done) | (simp only [alone, *, cond_true, cond_false, Bool.true_and, Bool.false_and]; rw [List.getElem?_eq_getElem (by omega)]; rfl)), rfl, trivial⟩ rfl ⟨Nat.zero_le _, by rw [List.drop_zero, t.parts_kids, List.all_cons]⟩ fun x hi => ?_
            refine Runs.seq ?_
            refine Runs.rseq ?_
            refine RO.opv (v' := .d (.int _ _)) (opv_move rfl) rfl ?_
            refine RO.opv (v' := .d (.int _ _)) (opv_move rfl) rfl ?_
            refine RO.opv (v' := .d (.bool _)) (opv_bin rfl rfl rfl) rfl ?_
            refine RO.opc (opv_move rfl) (fun h41 => ?_) (fun h41 => ?_)
            · skip
              have hk : x.1 < t.kids.length := by have := of_decide_eq_true h41; omega
              refine RO.opgv (v' := .d (.bool _)) rfl (opv_move rfl) rfl ?_
              refine RO.opc (opv_pick rfl rfl) (fun h42 => ?_) (fun h42 => ?_)
              · skip
                have hf : x.2 = true := h42
                refine RO.nil ?_
                refine Runs.condT rfl ?_
                refine Runs.skip ?_
                refine thenQ_normal ?_
                refine Runs.has [(1, .d (.int _ _)), (2, .ref 0 0), (4, .d (.bool false)), (5, .d (.int _ _)), (6, .d (.bool _)), (7, .d (.int _ _))] ⟨rfl, rfl, rfl, rfl, rfl, rfl, trivial⟩ ?_
                refine Runs.seq ?_
                refine Runs.block ?_
                refine Runs.region ?_
                refine RO.opv (v' := .ref 0 3) (opv_field_ref rfl rfl) rfl ?_
                refine RO.opv (v' := .d (.list (encs _))) (opv_load_ref rfl rfl rfl) rfl ?_
                refine RO.opv (v' := .d (.int _ _)) (opv_move rfl) rfl ?_
                refine RO.opv (v' := .d (.ptr _)) (opv_index_terms rfl rfl (by omega)) rfl ?_
                refine RO.opv (v' := .d (enc _)) (opv_load_pterm rfl) rfl ?_
                refine RO.opv (v' := .d (.int _ _)) (opv_move rfl) rfl ?_
                refine RO.opv (v' := .d (.bool _)) (opv_callF (ih t.kids[x.1] lv (by have := sizes_mem (List.getElem_mem hk); omega) (by have := bulks_mem (List.getElem_mem hk); omega)) rfl rfl rfl trivial) rfl ?_
                refine RO.opv (v' := .d (.bool _)) (opv_assign rfl) rfl ?_
                refine RO.nil ?_
                refine blockQ_normal ?_
                refine thenQ_normal ?_
                refine Runs.has [(1, .d (.int _ _)), (2, .ref 0 0), (4, .d (.bool false)), (5, .d (.int _ _)), (6, .d (.bool _)), (7, .d (.int _ _))] ⟨rfl, rfl, rfl, rfl, rfl, rfl, trivial⟩ ?_
                refine Runs.region ?_
                refine RO.opv (v' := .d (.int _ _)) (opv_move rfl) rfl ?_
                refine RO.opv (v' := .d (.int _ _)) (opv_bin rfl rfl rfl) rfl ?_
                refine RO.opv (v' := .d (.int _ _)) (opv_assign rfl) rfl ?_
                refine RO.nil ?_
                refine thenQ_normal ?_
                refine ⟨(x.1 + 1, t.kids[x.1].parts.all (alone lv)), 1, (by rw [hK]; exact Nat.le_of_ble_eq_true rfl), ⟨rfl, rfl, rfl, rfl, trivial⟩, ⟨?_, ?_, trivial⟩, rfl, ?_, ?_⟩
                · rfl
                · refine int_eq ?_; rw [wrap64 (by omega) (by omega)]; omega
                · refine ⟨by show x.1 + 1 ≤ _; omega, ?_⟩
                  rw [← hi.2, hf, drop_get hk, partss, List.all_append, Bool.true_and]
                · show t.kids.length - (x.1 + 1) < _; omega
              · skip
                have hf : x.2 = false := h42
                refine RO.nil ?_
                refine Runs.condF rfl ?_
                refine Runs.exit ?_
                refine thenQ_exit ?_
                refine thenQ_exit ?_
                refine blockQ_here ?_
                refine thenQ_normal ?_
                refine Runs.has [(4, .d (.bool false)), (6, .d (.bool _))] ⟨rfl, rfl, trivial⟩ ?_
                refine Runs.rseq ?_
                refine RO.opv (v' := .d (.bool _)) (opv_move rfl) rfl ?_
                refine RO.opv (v' := .d (.bool _)) (opv_assign rfl) rfl ?_
                refine RO.nil ?_
                refine Runs.ret ?_
                refine EndQ.tmp (.inr rfl) rfl rfl 0 (by exact Nat.le_refl _) (by exact Nat.zero_le _) trivial ⟨?_, rfl⟩
                refine bool_eq ?_
                first
                  | (rw [← hi.2, hf, Bool.false_and]; done)
                  | (rw [← hi.2, hk, List.drop_length]; simp [partss])
            · skip
              have hk : x.1 = t.kids.length := by have := of_decide_eq_false h41; omega
              refine RO.off rfl ?_
              refine RO.opv (v' := .d (.bool false)) (opv_pick rfl rfl) rfl ?_
              refine RO.nil ?_
              refine Runs.condF rfl ?_
              refine Runs.exit ?_
              refine thenQ_exit ?_
              refine thenQ_exit ?_
              refine blockQ_here ?_
              refine thenQ_normal ?_
              refine Runs.has [(4, .d (.bool false)), (6, .d (.bool _))] ⟨rfl, rfl, trivial⟩ ?_
              refine Runs.rseq ?_
              refine RO.opv (v' := .d (.bool _)) (opv_move rfl) rfl ?_
              refine RO.opv (v' := .d (.bool _)) (opv_assign rfl) rfl ?_
              refine RO.nil ?_
              refine Runs.ret ?_
              refine EndQ.tmp (.inr rfl) rfl rfl 0 (by exact Nat.le_refl _) (by exact Nat.zero_le _) trivial ⟨?_, rfl⟩
              refine bool_eq ?_
              first
                | (rw [← hi.2, hf, Bool.false_and]; done)
                | (rw [← hi.2, hk, List.drop_length]; simp [partss])
        · skip
          refine RO.nil ?_
          refine Runs.condF rfl ?_
          refine Runs.skip ?_
          refine blockQ_normal ?_
          refine thenQ_normal ?_
          refine Runs.has [(1, .d (.int _ _)), (2, .ref 0 0), (4, .d (.bool false)), (5, .d (.int _ _)), (6, .d (.bool false))] ⟨rfl, rfl, rfl, rfl, rfl, trivial⟩ ?_
          refine Runs.seq ?_
          refine Runs.rseq ?_
          refine RO.opv (v' := .d (.int _ _)) (opv_assign rfl) rfl ?_
          refine RO.nil ?_
          refine Runs.block ?_
          refine Runs.loopC (X := (Nat × Bool)) (fun x => x.1 ≤ t.kids.length ∧ (x.2 && (partss (t.kids.drop x.1)).all (alone lv)) = t.parts.all (alone lv)) (fun x => t.kids.length - x.1) [(1, .d (.int _ _)), (2, .ref 0 0), (4, .d (.bool false)), (5, .d (.int _ _))] (fun x => [(6, .d (.bool x.2)), (7, .d (.int .i64 (x.1 : Nat)))]) [_] (fun x => []) (((0 : Nat), alone lv t)) ⟨rfl, rfl, rfl, rfl, trivial⟩ ⟨(by refine bool_eq ?_; first | (simp only [alone, *, cond_true, cond_false, Bool.true_and, Bool.false_and]; done) | (simp only [alone, *, cond_true, cond_false, Bool.true_and, Bool.false_and]; rw [List.getElem?_eq_getElem (by omega)]; rfl)), rfl, trivial⟩ rfl ⟨Nat.zero_le _, by rw [List.drop_zero, t.parts_kids, List.all_cons]⟩ fun x hi => ?_
          refine Runs.seq ?_
          refine Runs.rseq ?_
          refine RO.opv (v' := .d (.int _ _)) (opv_move rfl) rfl ?_
          refine RO.opv (v' := .d (.int _ _)) (opv_move rfl) rfl ?_
          refine RO.opv (v' := .d (.bool _)) (opv_bin rfl rfl rfl) rfl ?_
          refine RO.opc (opv_move rfl) (fun h43 => ?_) (fun h43 => ?_)
          · skip
            have hk : x.1 < t.kids.length := by have := of_decide_eq_true h43; omega
            refine RO.opgv (v' := .d (.bool _)) rfl (opv_move rfl) rfl ?_
            refine RO.opc (opv_pick rfl rfl) (fun h44 => ?_) (fun h44 => ?_)
            · skip
              have hf : x.2 = true := h44
              refine RO.nil ?_
              refine Runs.condT rfl ?_
              refine Runs.skip ?_
              refine thenQ_normal ?_
              refine Runs.has [(1, .d (.int _ _)), (2, .ref 0 0), (4, .d (.bool false)), (5, .d (.int _ _)), (6, .d (.bool _)), (7, .d (.int _ _))] ⟨rfl, rfl, rfl, rfl, rfl, rfl, trivial⟩ ?_
              refine Runs.seq ?_
              refine Runs.block ?_
              refine Runs.region ?_
              refine RO.opv (v' := .ref 0 3) (opv_field_ref rfl rfl) rfl ?_
              refine RO.opv (v' := .d (.list (encs _))) (opv_load_ref rfl rfl rfl) rfl ?_
              refine RO.opv (v' := .d (.int _ _)) (opv_move rfl) rfl ?_
              refine RO.opv (v' := .d (.ptr _)) (opv_index_terms rfl rfl (by omega)) rfl ?_
              refine RO.opv (v' := .d (enc _)) (opv_load_pterm rfl) rfl ?_
              refine RO.opv (v' := .d (.int _ _)) (opv_move rfl) rfl ?_
              refine RO.opv (v' := .d (.bool _)) (opv_callF (ih t.kids[x.1] lv (by have := sizes_mem (List.getElem_mem hk); omega) (by have := bulks_mem (List.getElem_mem hk); omega)) rfl rfl rfl trivial) rfl ?_
              refine RO.opv (v' := .d (.bool _)) (opv_assign rfl) rfl ?_
              refine RO.nil ?_
              refine blockQ_normal ?_
              refine thenQ_normal ?_
              refine Runs.has [(1, .d (.int _ _)), (2, .ref 0 0), (4, .d (.bool false)), (5, .d (.int _ _)), (6, .d (.bool _)), (7, .d (.int _ _))] ⟨rfl, rfl, rfl, rfl, rfl, rfl, trivial⟩ ?_
              refine Runs.region ?_
              refine RO.opv (v' := .d (.int _ _)) (opv_move rfl) rfl ?_
              refine RO.opv (v' := .d (.int _ _)) (opv_bin rfl rfl rfl) rfl ?_
              refine RO.opv (v' := .d (.int _ _)) (opv_assign rfl) rfl ?_
              refine RO.nil ?_
              refine thenQ_normal ?_
              refine ⟨(x.1 + 1, t.kids[x.1].parts.all (alone lv)), 1, (by rw [hK]; exact Nat.le_of_ble_eq_true rfl), ⟨rfl, rfl, rfl, rfl, trivial⟩, ⟨?_, ?_, trivial⟩, rfl, ?_, ?_⟩
              · rfl
              · refine int_eq ?_; rw [wrap64 (by omega) (by omega)]; omega
              · refine ⟨by show x.1 + 1 ≤ _; omega, ?_⟩
                rw [← hi.2, hf, drop_get hk, partss, List.all_append, Bool.true_and]
              · show t.kids.length - (x.1 + 1) < _; omega
            · skip
              have hf : x.2 = false := h44
              refine RO.nil ?_
              refine Runs.condF rfl ?_
              refine Runs.exit ?_
              refine thenQ_exit ?_
              refine thenQ_exit ?_
              refine blockQ_here ?_
              refine thenQ_normal ?_
              refine Runs.has [(4, .d (.bool false)), (6, .d (.bool _))] ⟨rfl, rfl, trivial⟩ ?_
              refine Runs.rseq ?_
              refine RO.opv (v' := .d (.bool _)) (opv_move rfl) rfl ?_
              refine RO.opv (v' := .d (.bool _)) (opv_assign rfl) rfl ?_
              refine RO.nil ?_
              refine Runs.ret ?_
              refine EndQ.tmp (.inr rfl) rfl rfl 0 (by exact Nat.le_refl _) (by exact Nat.zero_le _) trivial ⟨?_, rfl⟩
              refine bool_eq ?_
              first
                | (rw [← hi.2, hf, Bool.false_and]; done)
                | (rw [← hi.2, hk, List.drop_length]; simp [partss])
          · skip
            have hk : x.1 = t.kids.length := by have := of_decide_eq_false h43; omega
            refine RO.off rfl ?_
            refine RO.opv (v' := .d (.bool false)) (opv_pick rfl rfl) rfl ?_
            refine RO.nil ?_
            refine Runs.condF rfl ?_
            refine Runs.exit ?_
            refine thenQ_exit ?_
            refine thenQ_exit ?_
            refine blockQ_here ?_
            refine thenQ_normal ?_
            refine Runs.has [(4, .d (.bool false)), (6, .d (.bool _))] ⟨rfl, rfl, trivial⟩ ?_
            refine Runs.rseq ?_
            refine RO.opv (v' := .d (.bool _)) (opv_move rfl) rfl ?_
            refine RO.opv (v' := .d (.bool _)) (opv_assign rfl) rfl ?_
            refine RO.nil ?_
            refine Runs.ret ?_
            refine EndQ.tmp (.inr rfl) rfl rfl 0 (by exact Nat.le_refl _) (by exact Nat.zero_le _) trivial ⟨?_, rfl⟩
            refine bool_eq ?_
            first
              | (rw [← hi.2, hf, Bool.false_and]; done)
              | (rw [← hi.2, hk, List.drop_length]; simp [partss])
theorem may_fn (t : Term) (lv : Int) (hb : t.bulk ≤ 2 ^ 28) : Fn Try.prog 36 [.d (enc t), .d (.int .i64 lv)] [] (.d (.bool (t.parts.all (alone lv)))) [] := may_aux t.size t lv (Nat.le_refl _) hb
theorem rdeep_aux  : ∀ (m : Nat) (t : Term), t.size ≤ m → t.bulk ≤ 2 ^ 30 → Fn Try.prog 26 [.d (enc t)] [] (.d (.int .i64 (t.deep : Nat))) [] := by
  intro m
  induction m with
  | zero => intro t h; have := t.size_kids; omega
  | succ m ih =>
  intro t hm hb
  have hS := t.size_kids
  have hU := t.bulk_kids
  have hL := bulks_len t.kids
  have hD := t.deep_kids
  have hX := deeps_sizes t.kids
  have hY := sizes_bulks t.kids
  refine Does.run Try.func26 rfl Try.ntmps26 rfl fun K hK => ?_
  refine Runs.rseq ?_
  refine RO.opn (v' := .ref 0 0) (O' := [_]) (opv_box_term rfl) rfl rfl ?_
  refine RO.opv (v' := .d (.int _ _)) (opv_assign rfl) rfl ?_
  refine RO.nil ?_
  refine Runs.has [(1, .ref 0 0), (2, .d (.int _ _))] ⟨rfl, rfl, trivial⟩ ?_
  refine Runs.rseq ?_
  refine RO.opv (v' := .d (.int _ _)) (opv_assign rfl) rfl ?_
  refine RO.nil ?_
  refine Runs.seq ?_
  refine Runs.rseq ?_
  refine RO.opv (v' := .d (.int _ _)) (opv_assign rfl) rfl ?_
  refine RO.nil ?_
  refine Runs.block ?_
  refine Runs.loopC (X := Nat) (fun i => i ≤ t.kids.length) (fun i => t.kids.length - i) [(1, .ref 0 0), (2, .d (.int _ _))] (fun i => [(3, .d (.int .i64 (deeps (t.kids.take i) : Nat))), (4, .d (.int .i64 (i : Nat)))]) [_] (fun i => []) (0) ⟨rfl, rfl, trivial⟩ ⟨rfl, rfl, trivial⟩ rfl (by omega) fun i hi => ?_
  refine Runs.seq ?_
  refine Runs.rseq ?_
  refine RO.opv (v' := .d (.int _ _)) (opv_move rfl) rfl ?_
  refine RO.opv (v' := .ref 0 3) (opv_field_ref rfl rfl) rfl ?_
  refine RO.opv (v' := .d (.list (encs _))) (opv_load_ref rfl rfl rfl) rfl ?_
  refine RO.opv (v' := .d (.int _ _)) (opv_len_terms rfl) rfl ?_
  refine RO.opc (opv_bin rfl rfl rfl) (fun h1 => ?_) (fun h1 => ?_)
  · try simp only [decide_eq_true_eq, decide_eq_false_iff_not, beq_iff_eq, beq_eq_false_iff_ne, bne_iff_ne, bne_eq_false_iff_eq, Int.not_lt, Int.not_le, ne_eq, Bool.not_eq_true', Bool.not_eq_false', gt_iff_lt, ge_iff_le] at h1
    have hk : i < t.kids.length := by omega
    refine RO.nil ?_
    refine Runs.condT rfl ?_
    refine Runs.skip ?_
    refine thenQ_normal ?_
    refine Runs.has [(1, .ref 0 0), (2, .d (.int _ _)), (3, .d (.int _ _)), (4, .d (.int _ _))] ⟨rfl, rfl, rfl, rfl, trivial⟩ ?_
    refine Runs.seq ?_
    refine Runs.block ?_
    refine Runs.rseq ?_
    refine RO.opv (v' := .ref 0 3) (opv_field_ref rfl rfl) rfl ?_
    refine RO.opv (v' := .d (.list (encs _))) (opv_load_ref rfl rfl rfl) rfl ?_
    refine RO.opv (v' := .d (.int _ _)) (opv_move rfl) rfl ?_
    refine RO.opv (v' := .d (.ptr _)) (opv_index_terms rfl rfl (by omega)) rfl ?_
    refine RO.opv (v' := .d (enc _)) (opv_load_pterm rfl) rfl ?_
    refine RO.opv (v' := .d (.int _ _)) (opv_callF (ih t.kids[i] (by have := sizes_mem (List.getElem_mem hk); omega) (by have := bulks_mem (List.getElem_mem hk); omega)) rfl rfl rfl trivial) rfl ?_
    refine RO.opv (v' := .d (.int _ _)) (opv_assign rfl) rfl ?_
    refine RO.nil ?_
    refine Runs.has [(1, .ref 0 0), (2, .d (.int _ _)), (3, .d (.int _ _)), (4, .d (.int _ _)), (5, .d (.int _ _))] ⟨rfl, rfl, rfl, rfl, rfl, trivial⟩ ?_
    refine Runs.rseq ?_
    refine RO.opv (v' := .d (.int _ _)) (opv_move rfl) rfl ?_
    refine RO.opv (v' := .d (.int _ _)) (opv_move rfl) rfl ?_
    refine RO.opc (opv_bin rfl rfl rfl) (fun h2 => ?_) (fun h2 => ?_)
    · try simp only [decide_eq_true_eq, decide_eq_false_iff_not, beq_iff_eq, beq_eq_false_iff_ne, bne_iff_ne, bne_eq_false_iff_eq, Int.not_lt, Int.not_le, ne_eq, Bool.not_eq_true', Bool.not_eq_false', gt_iff_lt, ge_iff_le] at h2
      refine RO.nil ?_
      refine Runs.condT rfl ?_
      refine Runs.has [(1, .ref 0 0), (2, .d (.int _ _)), (3, .d (.int _ _)), (4, .d (.int _ _)), (5, .d (.int _ _))] ⟨rfl, rfl, rfl, rfl, rfl, trivial⟩ ?_
      refine Runs.region ?_
      refine RO.opv (v' := .d (.int _ _)) (opv_move rfl) rfl ?_
      refine RO.opv (v' := .d (.int _ _)) (opv_assign rfl) rfl ?_
      refine RO.nil ?_
      refine blockQ_normal ?_
      refine thenQ_normal ?_
      refine Runs.has [(1, .ref 0 0), (2, .d (.int _ _)), (3, .d (.int _ _)), (4, .d (.int _ _))] ⟨rfl, rfl, rfl, rfl, trivial⟩ ?_
      refine Runs.region ?_
      refine RO.opv (v' := .d (.int _ _)) (opv_move rfl) rfl ?_
      refine RO.opv (v' := .d (.int _ _)) (opv_bin rfl rfl rfl) rfl ?_
      refine RO.opv (v' := .d (.int _ _)) (opv_assign rfl) rfl ?_
      refine RO.nil ?_
      refine thenQ_normal ?_
      refine ⟨i+1, 1, (by rw [hK]; exact Nat.le_of_ble_eq_true rfl), ⟨rfl, rfl, trivial⟩, ⟨?_, ?_, trivial⟩, rfl, ?_, ?_⟩
      · refine int_eq ?_; rw [deeps_take t.kids i t.kids[i] (by simp)]; omega
      · refine int_eq ?_; rw [wrap64 (by omega) (by omega)]; omega
      · omega
      · omega
    · try simp only [decide_eq_true_eq, decide_eq_false_iff_not, beq_iff_eq, beq_eq_false_iff_ne, bne_iff_ne, bne_eq_false_iff_eq, Int.not_lt, Int.not_le, ne_eq, Bool.not_eq_true', Bool.not_eq_false', gt_iff_lt, ge_iff_le] at h2
      refine RO.nil ?_
      refine Runs.condF rfl ?_
      refine Runs.skip ?_
      refine blockQ_normal ?_
      refine thenQ_normal ?_
      refine Runs.has [(1, .ref 0 0), (2, .d (.int _ _)), (3, .d (.int _ _)), (4, .d (.int _ _))] ⟨rfl, rfl, rfl, rfl, trivial⟩ ?_
      refine Runs.region ?_
      refine RO.opv (v' := .d (.int _ _)) (opv_move rfl) rfl ?_
      refine RO.opv (v' := .d (.int _ _)) (opv_bin rfl rfl rfl) rfl ?_
      refine RO.opv (v' := .d (.int _ _)) (opv_assign rfl) rfl ?_
      refine RO.nil ?_
      refine thenQ_normal ?_
      refine ⟨i+1, 1, (by rw [hK]; exact Nat.le_of_ble_eq_true rfl), ⟨rfl, rfl, trivial⟩, ⟨?_, ?_, trivial⟩, rfl, ?_, ?_⟩
      · refine int_eq ?_; rw [deeps_take t.kids i t.kids[i] (by simp)]; omega
      · refine int_eq ?_; rw [wrap64 (by omega) (by omega)]; omega
      · omega
      · omega
  · try simp only [decide_eq_true_eq, decide_eq_false_iff_not, beq_iff_eq, beq_eq_false_iff_ne, bne_iff_ne, bne_eq_false_iff_eq, Int.not_lt, Int.not_le, ne_eq, Bool.not_eq_true', Bool.not_eq_false', gt_iff_lt, ge_iff_le] at h1
    have hk : i = t.kids.length := by omega
    refine RO.nil ?_
    refine Runs.condF rfl ?_
    refine Runs.exit ?_
    refine thenQ_exit ?_
    refine thenQ_exit ?_
    refine blockQ_here ?_
    refine thenQ_normal ?_
    refine Runs.has [(2, .d (.int _ _)), (3, .d (.int _ _))] ⟨rfl, rfl, trivial⟩ ?_
    refine Runs.rseq ?_
    refine RO.opv (v' := .d (.int _ _)) (opv_move rfl) rfl ?_
    refine RO.opv (v' := .d (.int _ _)) (opv_bin rfl rfl rfl) rfl ?_
    refine RO.opv (v' := .d (.int _ _)) (opv_assign rfl) rfl ?_
    refine RO.nil ?_
    refine Runs.ret ?_
    refine EndQ.tmp (.inr rfl) rfl rfl 0 (by exact Nat.le_refl _) (by exact Nat.zero_le _) trivial ⟨?_, rfl⟩
    refine int_eq ?_; subst hk; rw [List.take_length, hD, wrap64 (by omega) (by omega)]; omega
theorem rdeep_fn (t : Term) (hb : t.bulk ≤ 2 ^ 30) : Fn Try.prog 26 [.d (enc t)] [] (.d (.int .i64 (t.deep : Nat))) [] := rdeep_aux t.size t (Nat.le_refl _) hb
theorem rcheck_fn (t : Term) (lv : Int) (hb : t.bulk ≤ 2 ^ 28) : Fn Try.prog 24 [.d (enc t), .d (.int .i64 lv)] [] (.d (.int .i64 (t.check lv))) [] := by
  refine Does.run Try.func24 rfl Try.ntmps24 rfl fun K hK => ?_
  refine Runs.rseq ?_
  refine RO.opn (v' := .ref 0 0) (O' := [_]) (opv_box_term rfl) rfl rfl ?_
  refine RO.opv (v' := .d (.int _ _)) (opv_assign rfl) rfl ?_
  refine RO.nil ?_
  refine Runs.has [(1, .d (.int _ _)), (2, .ref 0 0), (4, .d (.int _ _))] ⟨rfl, rfl, rfl, trivial⟩ ?_
  refine Runs.seq ?_
  refine Runs.rseq ?_
  refine RO.opv (v' := .d (enc _)) (opv_load_term rfl rfl rfl) rfl ?_
  refine RO.opv (v' := .d (.int _ _)) (opv_callF (rsize_fn t (by omega)) rfl rfl rfl trivial) rfl ?_
  refine RO.opc (opv_bin rfl rfl rfl) (fun h1 => ?_) (fun h1 => ?_)
  · try simp only [decide_eq_true_eq, decide_eq_false_iff_not, beq_iff_eq, beq_eq_false_iff_ne, bne_iff_ne, bne_eq_false_iff_eq, Int.not_lt, Int.not_le, ne_eq, Bool.not_eq_true', Bool.not_eq_false', gt_iff_lt, ge_iff_le] at h1
    refine RO.nil ?_
    refine Runs.condT rfl ?_
    refine Runs.has [(1, .d (.int _ _)), (2, .ref 0 0), (4, .d (.int _ _))] ⟨rfl, rfl, rfl, trivial⟩ ?_
    refine Runs.rseq ?_
    refine RO.opv (v' := .d (.int _ _)) (opv_assign rfl) rfl ?_
    refine RO.nil ?_
    refine Runs.ret ?_
    refine thenQ_ret ?_
    refine EndQ.tmp (.inr rfl) rfl rfl 0 (by exact Nat.le_refl _) (by exact Nat.zero_le _) trivial ⟨?_, rfl⟩
    refine int_eq ?_; unfold Term.check; rw [if_pos (by omega)]
  · try simp only [decide_eq_true_eq, decide_eq_false_iff_not, beq_iff_eq, beq_eq_false_iff_ne, bne_iff_ne, bne_eq_false_iff_eq, Int.not_lt, Int.not_le, ne_eq, Bool.not_eq_true', Bool.not_eq_false', gt_iff_lt, ge_iff_le] at h1
    refine RO.nil ?_
    refine Runs.condF rfl ?_
    refine Runs.skip ?_
    refine thenQ_normal ?_
    refine Runs.has [(1, .d (.int _ _)), (2, .ref 0 0), (4, .d (.int _ _))] ⟨rfl, rfl, rfl, trivial⟩ ?_
    refine Runs.seq ?_
    refine Runs.rseq ?_
    refine RO.opv (v' := .d (enc _)) (opv_load_term rfl rfl rfl) rfl ?_
    refine RO.opv (v' := .d (.int _ _)) (opv_callF (rdeep_fn t (by omega)) rfl rfl rfl trivial) rfl ?_
    refine RO.opc (opv_bin rfl rfl rfl) (fun h2 => ?_) (fun h2 => ?_)
    · try simp only [decide_eq_true_eq, decide_eq_false_iff_not, beq_iff_eq, beq_eq_false_iff_ne, bne_iff_ne, bne_eq_false_iff_eq, Int.not_lt, Int.not_le, ne_eq, Bool.not_eq_true', Bool.not_eq_false', gt_iff_lt, ge_iff_le] at h2
      refine RO.nil ?_
      refine Runs.condT rfl ?_
      refine Runs.has [(1, .d (.int _ _)), (2, .ref 0 0), (4, .d (.int _ _))] ⟨rfl, rfl, rfl, trivial⟩ ?_
      refine Runs.rseq ?_
      refine RO.opv (v' := .d (.int _ _)) (opv_assign rfl) rfl ?_
      refine RO.nil ?_
      refine Runs.ret ?_
      refine thenQ_ret ?_
      refine EndQ.tmp (.inr rfl) rfl rfl 0 (by exact Nat.le_refl _) (by exact Nat.zero_le _) trivial ⟨?_, rfl⟩
      refine int_eq ?_; unfold Term.check; rw [if_neg (by omega), if_pos (by omega)]
    · try simp only [decide_eq_true_eq, decide_eq_false_iff_not, beq_iff_eq, beq_eq_false_iff_ne, bne_iff_ne, bne_eq_false_iff_eq, Int.not_lt, Int.not_le, ne_eq, Bool.not_eq_true', Bool.not_eq_false', gt_iff_lt, ge_iff_le] at h2
      refine RO.nil ?_
      refine Runs.condF rfl ?_
      refine Runs.skip ?_
      refine thenQ_normal ?_
      refine Runs.has [(1, .d (.int _ _)), (2, .ref 0 0), (4, .d (.int _ _))] ⟨rfl, rfl, rfl, trivial⟩ ?_
      refine Runs.seq ?_
      refine Runs.rseq ?_
      refine RO.opv (v' := .d (enc _)) (opv_load_term rfl rfl rfl) rfl ?_
      refine RO.opv (v' := .d (.int _ _)) (opv_move rfl) rfl ?_
      refine RO.opv (v' := .d (.bool _)) (opv_callF (may_fn t lv hb) rfl rfl rfl trivial) rfl ?_
      refine RO.opc (opv_not rfl rfl) (fun h3 => ?_) (fun h3 => ?_)
      · try simp only [decide_eq_true_eq, decide_eq_false_iff_not, beq_iff_eq, beq_eq_false_iff_ne, bne_iff_ne, bne_eq_false_iff_eq, Int.not_lt, Int.not_le, ne_eq, Bool.not_eq_true', Bool.not_eq_false', gt_iff_lt, ge_iff_le] at h3
        refine RO.nil ?_
        refine Runs.condT rfl ?_
        refine Runs.has [(4, .d (.int _ _))] ⟨rfl, trivial⟩ ?_
        refine Runs.rseq ?_
        refine RO.opv (v' := .d (.int _ _)) (opv_assign rfl) rfl ?_
        refine RO.nil ?_
        refine Runs.ret ?_
        refine thenQ_ret ?_
        refine EndQ.tmp (.inr rfl) rfl rfl 0 (by exact Nat.le_refl _) (by exact Nat.zero_le _) trivial ⟨?_, rfl⟩
        refine int_eq ?_; unfold Term.check; rw [if_neg (by omega), if_neg (by omega), h3]; rfl
      · try simp only [decide_eq_true_eq, decide_eq_false_iff_not, beq_iff_eq, beq_eq_false_iff_ne, bne_iff_ne, bne_eq_false_iff_eq, Int.not_lt, Int.not_le, ne_eq, Bool.not_eq_true', Bool.not_eq_false', gt_iff_lt, ge_iff_le] at h3
        refine RO.nil ?_
        refine Runs.condF rfl ?_
        refine Runs.skip ?_
        refine thenQ_normal ?_
        refine Runs.has [(4, .d (.int _ _))] ⟨rfl, trivial⟩ ?_
        refine Runs.rseq ?_
        refine RO.opv (v' := .d (.int _ _)) (opv_assign rfl) rfl ?_
        refine RO.nil ?_
        refine Runs.ret ?_
        refine EndQ.tmp (.inr rfl) rfl rfl 0 (by exact Nat.le_refl _) (by exact Nat.zero_le _) trivial ⟨?_, rfl⟩
        refine int_eq ?_; unfold Term.check; rw [if_neg (by omega), if_neg (by omega), h3]; rfl
theorem rshift_aux  : ∀ (m : Nat) (t : Term) (d : Int), t.size ≤ m → t.bulk ≤ 2 ^ 30 → Fn Try.prog 30 [.d (enc t), .d (.int .i64 d)] [] (.d (enc (t.shift d))) [] := by
  intro m
  induction m with
  | zero => intro t d h; have := t.size_kids; omega
  | succ m ih =>
  intro t d hm hb
  have hS := t.size_kids
  have hU := t.bulk_kids
  have hL := bulks_len t.kids
  refine Does.run Try.func30 rfl Try.ntmps30 rfl fun K hK => ?_
  refine Runs.rseq ?_
  refine RO.opn (v' := .ref 0 0) (O' := [_]) (opv_box_term rfl) rfl rfl ?_
  refine RO.opn (v' := .ref 1 0) (O' := [_, _]) (opv_alloc) rfl rfl ?_
  refine RO.nil ?_
  refine Runs.has [(1, .d (.int _ _)), (2, .ref 0 0), (4, .ref 1 0)] ⟨rfl, rfl, rfl, trivial⟩ ?_
  refine Runs.newbuf 24 4 ?_
  refine Runs.rseq ?_
  refine RO.opv (v' := .ref 0 0) (opv_field_ref rfl rfl) rfl ?_
  refine RO.opv (v' := .d (.int _ _)) (opv_load_ref rfl rfl rfl) rfl ?_
  refine RO.opv (v' := .ref 0 1) (opv_field_ref rfl rfl) rfl ?_
  refine RO.opv (v' := .d (.int _ _)) (opv_load_ref rfl rfl rfl) rfl ?_
  refine RO.opv (v' := .ref 0 2) (opv_field_ref rfl rfl) rfl ?_
  refine RO.opv (v' := .d (.str _)) (opv_load_ref rfl rfl rfl) rfl ?_
  refine RO.opv (v' := .agg _) (opv_build_own 2 3 rfl rfl rfl) rfl ?_
  refine RO.opn (v' := .ref 3 0) (O' := [_, _, _, _]) (opv_alloc) rfl rfl ?_
  refine RO.op0n (O' := [_, _, _, _]) (opv_store_ref rfl rfl rfl rfl rfl (Nat.le_of_ble_eq_true rfl) rfl) rfl ?_
  refine RO.nil ?_
  refine Runs.has [(1, .d (.int _ _)), (2, .ref 0 0), (4, .ref 1 0), (5, .ref 3 0)] ⟨rfl, rfl, rfl, rfl, trivial⟩ ?_
  refine Runs.seq ?_
  refine Runs.rseq ?_
  refine RO.opv (v' := .ref 0 0) (opv_field_ref rfl rfl) rfl ?_
  refine RO.opv (v' := .d (.int _ _)) (opv_load_ref rfl rfl rfl) rfl ?_
  refine RO.opc (opv_bin rfl rfl rfl) (fun h1 => ?_) (fun h1 => ?_)
  · try simp only [decide_eq_true_eq, decide_eq_false_iff_not, beq_iff_eq, beq_eq_false_iff_ne, bne_iff_ne, bne_eq_false_iff_eq, Int.not_lt, Int.not_le, ne_eq, Bool.not_eq_true', Bool.not_eq_false', gt_iff_lt, ge_iff_le] at h1
    refine RO.nil ?_
    refine Runs.condT rfl ?_
    refine Runs.has [(1, .d (.int _ _)), (2, .ref 0 0), (4, .ref 1 0), (5, .ref 3 0)] ⟨rfl, rfl, rfl, rfl, trivial⟩ ?_
    refine Runs.region ?_
    refine RO.opv (v' := .ref 0 1) (opv_field_ref rfl rfl) rfl ?_
    refine RO.opv (v' := .d (.int _ _)) (opv_load_ref rfl rfl rfl) rfl ?_
    refine RO.opv (v' := .d (.int _ _)) (opv_move rfl) rfl ?_
    refine RO.opv (v' := .d (.int _ _)) (opv_bin rfl rfl rfl) rfl ?_
    refine RO.opv (v' := .ref 3 1) (opv_field_ref rfl rfl) rfl ?_
    refine RO.op0n (O' := [_, _, _, _]) (opv_store_ref rfl rfl rfl rfl rfl (Nat.le_of_ble_eq_true rfl) rfl) rfl ?_
    refine RO.nil ?_
    refine thenQ_normal ?_
    refine Runs.has [(1, .d (.int _ _)), (2, .ref 0 0), (4, .ref 1 0), (5, .ref 3 0)] ⟨rfl, rfl, rfl, rfl, trivial⟩ ?_
    refine Runs.seq ?_
    refine Runs.rseq ?_
    refine RO.opv (v' := .d (.int _ _)) (opv_assign rfl) rfl ?_
    refine RO.nil ?_
    refine Runs.block ?_
    refine Runs.loopC (X := Nat) (fun i => i ≤ t.kids.length) (fun i => t.kids.length - i) [(1, .d (.int _ _)), (2, .ref 0 0), (4, .ref 1 0), (5, .ref 3 0)] (fun i => [(6, .d (.int .i64 (i : Nat)))]) [_, _] (fun i => [.buf 24 4 (encs (shifts d (t.kids.take i))) i, .cells [.d (.int .i64 t.kind), .d (.int .i64 (IntKind.i64.wrap (t.num + d))), .d (.str t.name), .own 2 i]]) (0) ⟨rfl, rfl, rfl, rfl, trivial⟩ ⟨rfl, trivial⟩ rfl (by omega) fun i hi => ?_
    refine Runs.seq ?_
    refine Runs.rseq ?_
    refine RO.opv (v' := .d (.int _ _)) (opv_move rfl) rfl ?_
    refine RO.opv (v' := .ref 0 3) (opv_field_ref rfl rfl) rfl ?_
    refine RO.opv (v' := .d (.list (encs _))) (opv_load_ref rfl rfl rfl) rfl ?_
    refine RO.opv (v' := .d (.int _ _)) (opv_len_terms rfl) rfl ?_
    refine RO.opc (opv_bin rfl rfl rfl) (fun h2 => ?_) (fun h2 => ?_)
    · try simp only [decide_eq_true_eq, decide_eq_false_iff_not, beq_iff_eq, beq_eq_false_iff_ne, bne_iff_ne, bne_eq_false_iff_eq, Int.not_lt, Int.not_le, ne_eq, Bool.not_eq_true', Bool.not_eq_false', gt_iff_lt, ge_iff_le] at h2
      have hk : i < t.kids.length := by omega
      refine RO.nil ?_
      refine Runs.condT rfl ?_
      refine Runs.skip ?_
      refine thenQ_normal ?_
      refine Runs.has [(1, .d (.int _ _)), (2, .ref 0 0), (4, .ref 1 0), (5, .ref 3 0), (6, .d (.int _ _))] ⟨rfl, rfl, rfl, rfl, rfl, trivial⟩ ?_
      refine Runs.seq ?_
      refine Runs.block ?_
      refine Runs.drawn (by kernel_rfl) [] [false, false, false, false, false, false, false, false, false, false, false, false, false] [false, false, false, false, false, false, false, false, false, false, true, false, true] (by decide +kernel) ?_
      refine RD.opv (v' := .ref 3 3) (opv_field_ref rfl rfl) rfl ?_
      refine RD.opv (v' := .own 2 _) (opv_load_ref rfl rfl rfl) rfl ?_
      refine RD.opv (v' := .ref 0 3) (opv_field_ref rfl rfl) rfl ?_
      refine RD.opv (v' := .d (.list (encs _))) (opv_load_ref rfl rfl rfl) rfl ?_
      refine RD.opv (v' := .d (.int _ _)) (opv_move rfl) rfl ?_
      refine RD.opv (v' := .d (.ptr _)) (opv_index_terms rfl rfl (by omega)) rfl ?_
      refine RD.opv (v' := .d (enc _)) (opv_load_pterm rfl) rfl ?_
      refine RD.opv (v' := .d (.int _ _)) (opv_move rfl) rfl ?_
      refine RD.opv (v' := .d (enc _)) (opv_callF (ih t.kids[i] d (by have := sizes_mem (List.getElem_mem hk); omega) (by have := bulks_mem (List.getElem_mem hk); omega)) rfl rfl rfl trivial) rfl ?_
      refine RD.opv (v' := .d (.list (encs _))) (opv_bs_term1 rfl ) rfl ?_
      refine RD.opn (v' := .own 2 _) (O' := [_, _, _, _]) (opv_append_terms rfl rfl rfl (by rw [shifts_len]; simp; omega)) rfl rfl trivial ?_
      refine RD.opv (v' := .ref 3 3) (opv_field_ref rfl rfl) rfl ?_
      refine RD.op0n (O' := [_, _, _, _]) (opv_store_ref rfl rfl rfl rfl rfl (Nat.le_of_ble_eq_true rfl) rfl) rfl trivial ?_
      refine RD.nil ?_
      refine blockQ_normal ?_
      refine thenQ_normal ?_
      refine Runs.has [(1, .d (.int _ _)), (2, .ref 0 0), (4, .ref 1 0), (5, .ref 3 0), (6, .d (.int _ _))] ⟨rfl, rfl, rfl, rfl, rfl, trivial⟩ ?_
      refine Runs.region ?_
      refine RO.opv (v' := .d (.int _ _)) (opv_move rfl) rfl ?_
      refine RO.opv (v' := .d (.int _ _)) (opv_bin rfl rfl rfl) rfl ?_
      refine RO.opv (v' := .d (.int _ _)) (opv_assign rfl) rfl ?_
      refine RO.nil ?_
      refine thenQ_normal ?_
      refine ⟨i+1, 4, (by rw [hK]; exact Nat.le_of_ble_eq_true rfl), ⟨rfl, rfl, rfl, rfl, trivial⟩, ⟨?_, trivial⟩, ?_, ?_, ?_⟩
      · refine int_eq ?_; rw [wrap64 (by omega) (by omega)]; omega
      · rw [shifts_take hk]; rfl
      · omega
      · omega
    · try simp only [decide_eq_true_eq, decide_eq_false_iff_not, beq_iff_eq, beq_eq_false_iff_ne, bne_iff_ne, bne_eq_false_iff_eq, Int.not_lt, Int.not_le, ne_eq, Bool.not_eq_true', Bool.not_eq_false', gt_iff_lt, ge_iff_le] at h2
      have hk : i = t.kids.length := by omega
      refine RO.nil ?_
      refine Runs.condF rfl ?_
      refine Runs.exit ?_
      refine thenQ_exit ?_
      refine thenQ_exit ?_
      refine blockQ_here ?_
      refine thenQ_normal ?_
      refine Runs.has [(4, .ref 1 0), (5, .ref 3 0)] ⟨rfl, rfl, trivial⟩ ?_
      refine Runs.shutC 3 3 rfl rfl rfl ?_
      refine Runs.rseq ?_
      refine RO.opv (v' := .d (enc _)) (opv_load_node rfl rfl rfl rfl) rfl ?_
      refine RO.op0n (O' := [_, _, _, _]) (opv_store_term rfl rfl rfl (Nat.le_of_ble_eq_true rfl)) rfl ?_
      refine RO.nil ?_
      refine Runs.ret ?_
      refine EndQ.cell_term (.inr rfl) rfl rfl rfl rfl 0 (by exact Nat.le_refl _) (by exact Nat.zero_le _) ⟨?_, rfl⟩
      refine term_eq ?_; rw [shift_eq, if_pos h1, hk, List.take_length]
  · try simp only [decide_eq_true_eq, decide_eq_false_iff_not, beq_iff_eq, beq_eq_false_iff_ne, bne_iff_ne, bne_eq_false_iff_eq, Int.not_lt, Int.not_le, ne_eq, Bool.not_eq_true', Bool.not_eq_false', gt_iff_lt, ge_iff_le] at h1
    refine RO.nil ?_
    refine Runs.condF rfl ?_
    refine Runs.skip ?_
    refine thenQ_normal ?_
    refine Runs.has [(1, .d (.int _ _)), (2, .ref 0 0), (4, .ref 1 0), (5, .ref 3 0)] ⟨rfl, rfl, rfl, rfl, trivial⟩ ?_
    refine Runs.seq ?_
    refine Runs.rseq ?_
    refine RO.opv (v' := .d (.int _ _)) (opv_assign rfl) rfl ?_
    refine RO.nil ?_
    refine Runs.block ?_
    refine Runs.loopC (X := Nat) (fun i => i ≤ t.kids.length) (fun i => t.kids.length - i) [(1, .d (.int _ _)), (2, .ref 0 0), (4, .ref 1 0), (5, .ref 3 0)] (fun i => [(6, .d (.int .i64 (i : Nat)))]) [_, _] (fun i => [.buf 24 4 (encs (shifts d (t.kids.take i))) i, .cells [.d (.int .i64 t.kind), .d (.int .i64 t.num), .d (.str t.name), .own 2 i]]) (0) ⟨rfl, rfl, rfl, rfl, trivial⟩ ⟨rfl, trivial⟩ rfl (by omega) fun i hi => ?_
    refine Runs.seq ?_
    refine Runs.rseq ?_
    refine RO.opv (v' := .d (.int _ _)) (opv_move rfl) rfl ?_
    refine RO.opv (v' := .ref 0 3) (opv_field_ref rfl rfl) rfl ?_
    refine RO.opv (v' := .d (.list (encs _))) (opv_load_ref rfl rfl rfl) rfl ?_
    refine RO.opv (v' := .d (.int _ _)) (opv_len_terms rfl) rfl ?_
    refine RO.opc (opv_bin rfl rfl rfl) (fun h3 => ?_) (fun h3 => ?_)
    · try simp only [decide_eq_true_eq, decide_eq_false_iff_not, beq_iff_eq, beq_eq_false_iff_ne, bne_iff_ne, bne_eq_false_iff_eq, Int.not_lt, Int.not_le, ne_eq, Bool.not_eq_true', Bool.not_eq_false', gt_iff_lt, ge_iff_le] at h3
      have hk : i < t.kids.length := by omega
      refine RO.nil ?_
      refine Runs.condT rfl ?_
      refine Runs.skip ?_
      refine thenQ_normal ?_
      refine Runs.has [(1, .d (.int _ _)), (2, .ref 0 0), (4, .ref 1 0), (5, .ref 3 0), (6, .d (.int _ _))] ⟨rfl, rfl, rfl, rfl, rfl, trivial⟩ ?_
      refine Runs.seq ?_
      refine Runs.block ?_
      refine Runs.drawn (by kernel_rfl) [] [false, false, false, false, false, false, false, false, false, false, false, false, false] [false, false, false, false, false, false, false, false, false, false, true, false, true] (by decide +kernel) ?_
      refine RD.opv (v' := .ref 3 3) (opv_field_ref rfl rfl) rfl ?_
      refine RD.opv (v' := .own 2 _) (opv_load_ref rfl rfl rfl) rfl ?_
      refine RD.opv (v' := .ref 0 3) (opv_field_ref rfl rfl) rfl ?_
      refine RD.opv (v' := .d (.list (encs _))) (opv_load_ref rfl rfl rfl) rfl ?_
      refine RD.opv (v' := .d (.int _ _)) (opv_move rfl) rfl ?_
      refine RD.opv (v' := .d (.ptr _)) (opv_index_terms rfl rfl (by omega)) rfl ?_
      refine RD.opv (v' := .d (enc _)) (opv_load_pterm rfl) rfl ?_
      refine RD.opv (v' := .d (.int _ _)) (opv_move rfl) rfl ?_
      refine RD.opv (v' := .d (enc _)) (opv_callF (ih t.kids[i] d (by have := sizes_mem (List.getElem_mem hk); omega) (by have := bulks_mem (List.getElem_mem hk); omega)) rfl rfl rfl trivial) rfl ?_
      refine RD.opv (v' := .d (.list (encs _))) (opv_bs_term1 rfl ) rfl ?_
      refine RD.opn (v' := .own 2 _) (O' := [_, _, _, _]) (opv_append_terms rfl rfl rfl (by rw [shifts_len]; simp; omega)) rfl rfl trivial ?_
      refine RD.opv (v' := .ref 3 3) (opv_field_ref rfl rfl) rfl ?_
      refine RD.op0n (O' := [_, _, _, _]) (opv_store_ref rfl rfl rfl rfl rfl (Nat.le_of_ble_eq_true rfl) rfl) rfl trivial ?_
      refine RD.nil ?_
      refine blockQ_normal ?_
      refine thenQ_normal ?_
      refine Runs.has [(1, .d (.int _ _)), (2, .ref 0 0), (4, .ref 1 0), (5, .ref 3 0), (6, .d (.int _ _))] ⟨rfl, rfl, rfl, rfl, rfl, trivial⟩ ?_
      refine Runs.region ?_
      refine RO.opv (v' := .d (.int _ _)) (opv_move rfl) rfl ?_
      refine RO.opv (v' := .d (.int _ _)) (opv_bin rfl rfl rfl) rfl ?_
      refine RO.opv (v' := .d (.int _ _)) (opv_assign rfl) rfl ?_
      refine RO.nil ?_
      refine thenQ_normal ?_
      refine ⟨i+1, 4, (by rw [hK]; exact Nat.le_of_ble_eq_true rfl), ⟨rfl, rfl, rfl, rfl, trivial⟩, ⟨?_, trivial⟩, ?_, ?_, ?_⟩
      · refine int_eq ?_; rw [wrap64 (by omega) (by omega)]; omega
      · rw [shifts_take hk]; rfl
      · omega
      · omega
    · try simp only [decide_eq_true_eq, decide_eq_false_iff_not, beq_iff_eq, beq_eq_false_iff_ne, bne_iff_ne, bne_eq_false_iff_eq, Int.not_lt, Int.not_le, ne_eq, Bool.not_eq_true', Bool.not_eq_false', gt_iff_lt, ge_iff_le] at h3
      have hk : i = t.kids.length := by omega
      refine RO.nil ?_
      refine Runs.condF rfl ?_
      refine Runs.exit ?_
      refine thenQ_exit ?_
      refine thenQ_exit ?_
      refine blockQ_here ?_
      refine thenQ_normal ?_
      refine Runs.has [(4, .ref 1 0), (5, .ref 3 0)] ⟨rfl, rfl, trivial⟩ ?_
      refine Runs.shutC 3 3 rfl rfl rfl ?_
      refine Runs.rseq ?_
      refine RO.opv (v' := .d (enc _)) (opv_load_node rfl rfl rfl rfl) rfl ?_
      refine RO.op0n (O' := [_, _, _, _]) (opv_store_term rfl rfl rfl (Nat.le_of_ble_eq_true rfl)) rfl ?_
      refine RO.nil ?_
      refine Runs.ret ?_
      refine EndQ.cell_term (.inr rfl) rfl rfl rfl rfl 0 (by exact Nat.le_refl _) (by exact Nat.zero_le _) ⟨?_, rfl⟩
      refine term_eq ?_; rw [shift_eq, if_neg h1, hk, List.take_length]
theorem rshift_fn (t : Term) (d : Int) (hb : t.bulk ≤ 2 ^ 30) : Fn Try.prog 30 [.d (enc t), .d (.int .i64 d)] [] (.d (enc (t.shift d))) [] := rshift_aux t.size t d (Nat.le_refl _) hb
end Go.Proofs.Ytondfedhffjokaa.AM
