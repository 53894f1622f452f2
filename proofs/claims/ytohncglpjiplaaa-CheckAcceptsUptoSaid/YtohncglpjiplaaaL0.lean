import Derived.Test.YtohncglpjiplaaaLg
import Derived.Test.YtohncglpjiplaaaQ1
namespace Go.Proofs.Ytohncglpjiplaaa.AM
open Go
set_option linter.unusedVariables false
set_option linter.unusedSimpArgs false
theorem chainp_fn (k : Nat) (hk : k < 16) : Fn Try.prog 10 [.d (.int .i64 ((k + 1 : Nat) : Int))] [] (.d (.list (encPs (chainP k)))) [] := by
  refine Does.run Try.func10 rfl Try.ntmps10 rfl fun K hK => ?_
  refine Runs.rseq ?_
  refine RO.opv (v' := .nil0) (opv_assign rfl) rfl ?_
  refine RO.nil ?_
  refine Runs.rseq ?_
  refine RO.opv (v' := .nil0) (opv_assign rfl) rfl ?_
  refine RO.nil ?_
  refine Runs.seq ?_
  refine Runs.adopt 3 65 2 rfl ?_
  refine Runs.rseq ?_
  refine RO.opv (v' := .d (.int _ _)) (opv_assign rfl) rfl ?_
  refine RO.nil ?_
  refine Runs.block ?_
  refine Runs.loopC (X := Nat) (fun i => i ≤ k) (fun i => k - i) [(0, .d (.int _ _)), (2, .nil0)] (fun i => [(3, .own 0 (1 + i)), (4, .d (.int .i64 ((i + 1 : Nat) : Int)))]) [] (fun i => [.buf 65 2 (encPs (chainP i)) (1 + i)]) (0) ⟨rfl, rfl, trivial⟩ ⟨rfl, rfl, trivial⟩ rfl (by omega) fun i hi => ?_
  refine Runs.seq ?_
  refine Runs.rseq ?_
  refine RO.opv (v' := .d (.int _ _)) (opv_move rfl) rfl ?_
  refine RO.opv (v' := .d (.int _ _)) (opv_move rfl) rfl ?_
  refine RO.opc (opv_bin rfl rfl rfl) (fun h1 => ?_) (fun h1 => ?_)
  · try simp only [Z.a, Z.b, Z.c, Z.d, Z.e, Z.f, Z.g, Z.h, Z.i, Z.j, Z.k, Z.l, Z.m] at h1
    have hl : i < k := by omega
    refine RO.nil ?_
    refine Runs.condT rfl ?_
    refine Runs.skip ?_
    refine thenQ_normal ?_
    refine Runs.has [(0, .d (.int _ _)), (2, .nil0), (3, .own 0 _), (4, .d (.int _ _))] ⟨rfl, rfl, rfl, rfl, trivial⟩ ?_
    refine Runs.seq ?_
    refine Runs.block ?_
    refine Runs.region ?_
    refine RO.opv (v' := .own 0 _) (opv_move rfl) rfl ?_
    refine RO.opv (v' := .d (.int _ _)) (opv_move rfl) rfl ?_
    refine RO.opv (v' := .d (.int _ _)) (opv_arith (r := ((i : Nat) : Int)) rfl rfl (by simp only [binD, if_true]; rw [wrap64 (by omega) (by omega)]; congr 2; omega)) rfl ?_
    refine RO.opv (v' := .d (.int _ _)) (opv_move rfl) rfl ?_
    refine RO.opv (v' := .d (encP _)) (opv_build_pair rfl rfl rfl) rfl ?_
    refine RO.opv (v' := .d (.list _)) (opv_buildSlice rfl rfl rfl rfl) rfl ?_
    refine RO.opn (v' := .own 0 _) (O' := [_]) (opv_append_own rfl rfl rfl rfl rfl rfl (by simp; rfl) (by rw [encPs_len, chainP_len]; simp; omega)) rfl rfl ?_
    refine RO.opv (v' := .own 0 _) (opv_assign rfl) rfl ?_
    refine RO.nil ?_
    refine blockQ_normal ?_
    refine thenQ_normal ?_
    refine Runs.has [(0, .d (.int _ _)), (2, .nil0), (3, .own 0 _), (4, .d (.int _ _))] ⟨rfl, rfl, rfl, rfl, trivial⟩ ?_
    refine Runs.region ?_
    refine RO.opv (v' := .d (.int _ _)) (opv_move rfl) rfl ?_
    refine RO.opv (v' := .d (.int _ _)) (opv_bin rfl rfl rfl) rfl ?_
    refine RO.opv (v' := .d (.int _ _)) (opv_assign rfl) rfl ?_
    refine RO.nil ?_
    refine thenQ_normal ?_
    refine ⟨i + 1, 1, (by rw [hK]; exact Nat.le_of_ble_eq_true rfl), ⟨rfl, rfl, trivial⟩, ⟨?_, ?_, trivial⟩, ?_, ?_, ?_⟩
    · rfl
    · refine int_eq ?_; rw [wrap64 (by omega) (by omega)]; omega
    · rw [chainP_succ]; rfl
    · omega
    · omega
  · try simp only [Z.a, Z.b, Z.c, Z.d, Z.e, Z.f, Z.g, Z.h, Z.i, Z.j, Z.k, Z.l, Z.m] at h1
    have hl : i = k := by omega
    refine RO.nil ?_
    refine Runs.condF rfl ?_
    refine Runs.exit ?_
    refine thenQ_exit ?_
    refine thenQ_exit ?_
    refine blockQ_here ?_
    refine thenQ_normal ?_
    refine Runs.has [(2, .nil0), (3, .own 0 _)] ⟨rfl, rfl, trivial⟩ ?_
    refine Runs.shut 3 rfl rfl ?_
    refine Runs.rseq ?_
    refine RO.opv (v' := .d (.list (encPs _))) (opv_move rfl) rfl ?_
    refine RO.opv (v' := .d (.list (encPs _))) (opv_assign rfl) rfl ?_
    refine RO.nil ?_
    refine Runs.ret ?_
    refine EndQ.tmp (.inr rfl) rfl rfl 0 (by exact Nat.le_refl _) (by exact Nat.zero_le _) trivial ⟨?_, rfl⟩
    rw [hl]; rfl
theorem lnewC_fn (k : Nat) (hk : k < 16) : Fn Try.prog 9 [.d (.int .i64 ((k + 1 : Nat) : Int)), .d (.list (encPs (chainP k)))] [] (.tup [.d (encL (C k)), .d (.int .i64 0)]) [] := by
  have h := lnew_fn ((k + 1 : Nat) : Int) (chainP k) (by rw [chainP_len]; omega)
  rw [newL_chain hk] at h
  exact h
def few18 (ts : List Term) : Bool := (ts.take 61).all (fun t => decide (t.size ≤ 100)) && decide ((ts.length : Int) ≤ 60)
theorem few_no {ts : List Term} {i : Nat} (h : i < ts.length) (h2 : i < 61) (hz : ¬ ts[i].size ≤ 100) : few18 ts = false := by
  unfold few18
  rw [Bool.and_eq_false_iff]; left
  rw [List.all_eq_false]
  exact ⟨ts[i], by rw [List.mem_take_iff_getElem]; exact ⟨i, by omega, rfl⟩, by simpa using hz⟩
theorem few_end {ts : List Term} {i : Nat} (h : i = ts.length ∨ i = 61) (ha : (ts.take i).all (fun t => decide (t.size ≤ 100)) = true) : few18 ts = decide ((ts.length : Int) ≤ 60) := by
  unfold few18
  rcases h with rfl | rfl
  · rw [List.take_length] at ha
    have : (ts.take 61).all (fun t => decide (t.size ≤ 100)) = true := by
      rw [List.all_eq_true] at ha ⊢
      exact fun x hx => ha x (List.mem_of_mem_take hx)
    rw [this, Bool.true_and]
  · rw [ha, Bool.true_and]
theorem few_fn (ts : List Term) (hb : bulks ts ≤ 2 ^ 30) : Fn Try.prog 12 [.d (.list (encs ts))] [] (.d (.bool (few18 ts))) [] := by
  have hL := bulks_len ts
  refine Does.run Try.func12 rfl Try.ntmps12 rfl fun K hK => ?_
  refine Runs.rseq ?_
  refine RO.opv (v' := .d (.bool false)) (opv_assign rfl) rfl ?_
  refine RO.nil ?_
  refine Runs.seq ?_
  refine Runs.rseq ?_
  refine RO.opv (v' := .d (.int _ _)) (opv_assign rfl) rfl ?_
  refine RO.nil ?_
  refine Runs.block ?_
  refine Runs.loopC (X := Nat) (fun i => i ≤ ts.length ∧ i ≤ 61 ∧ (ts.take i).all (fun t => decide (t.size ≤ 100)) = true) (fun i => ts.length - i) [(0, .d (.list (encs _)))] (fun i => [(3, .d (.int .i64 (i : Nat)))]) [] (fun i => []) (0) ⟨rfl, trivial⟩ ⟨rfl, trivial⟩ rfl ⟨Nat.zero_le _, Nat.zero_le _, rfl⟩ fun i hi => ?_
  refine Runs.seq ?_
  refine Runs.rseq ?_
  refine RO.opv (v' := .d (.int _ _)) (opv_move rfl) rfl ?_
  refine RO.opv (v' := .d (.list (encs _))) (opv_move rfl) rfl ?_
  refine RO.opv (v' := .d (.int _ _)) (opv_len_terms rfl) rfl ?_
  refine RO.opv (v' := .d (.bool _)) (opv_bin rfl rfl rfl) rfl ?_
  refine RO.opc (opv_move rfl) (fun h1 => ?_) (fun h1 => ?_)
  · try simp only [Z.a, Z.b, Z.c, Z.d, Z.e, Z.f, Z.g, Z.h, Z.i, Z.j, Z.k, Z.l, Z.m] at h1
    have hk : i < ts.length := by omega
    refine RO.opgv (v' := .d (.int _ _)) rfl (opv_move rfl) rfl ?_
    refine RO.opgv (v' := .d (.bool _)) rfl (opv_bin rfl rfl rfl) rfl ?_
    refine RO.opc (opv_pick rfl rfl) (fun h2 => ?_) (fun h2 => ?_)
    · try simp only [Z.a, Z.b, Z.c, Z.d, Z.e, Z.f, Z.g, Z.h, Z.i, Z.j, Z.k, Z.l, Z.m] at h2
      have hk2 : i < 61 := by omega
      refine RO.nil ?_
      refine Runs.condT rfl ?_
      refine Runs.skip ?_
      refine thenQ_normal ?_
      refine Runs.has [(0, .d (.list (encs _))), (3, .d (.int _ _))] ⟨rfl, rfl, trivial⟩ ?_
      refine Runs.seq ?_
      refine Runs.block ?_
      refine Runs.rseq ?_
      refine RO.opv (v' := .d (.list (encs _))) (opv_move rfl) rfl ?_
      refine RO.opv (v' := .d (.int _ _)) (opv_move rfl) rfl ?_
      refine RO.opv (v' := .d (.ptr _)) (opv_index_terms rfl rfl hk) rfl ?_
      refine RO.opv (v' := .d (enc _)) (opv_load_pterm rfl) rfl ?_
      refine RO.opv (v' := .d (.int _ _)) (opv_callF (rsize_fn ts[i] (by have := bulks_mem (List.getElem_mem hk); omega)) rfl rfl rfl trivial) rfl ?_
      refine RO.opc (opv_bin rfl rfl rfl) (fun h3 => ?_) (fun h3 => ?_)
      · try simp only [Z.a, Z.b, Z.c, Z.d, Z.e, Z.f, Z.g, Z.h, Z.i, Z.j, Z.k, Z.l, Z.m] at h3
        have hz := h3
        refine RO.nil ?_
        refine Runs.condT rfl ?_
        refine Runs.has [(0, .d (.list (encs _))), (3, .d (.int _ _))] ⟨rfl, rfl, trivial⟩ ?_
        refine Runs.rseq ?_
        refine RO.opv (v' := .d (.bool false)) (opv_assign rfl) rfl ?_
        refine RO.nil ?_
        refine Runs.ret ?_
        refine blockQ_ret ?_
        refine thenQ_ret ?_
        refine thenQ_ret ?_
        refine blockQ_ret ?_
        refine thenQ_ret ?_
        refine EndQ.tmp (.inr rfl) rfl rfl 0 (by exact Nat.le_refl _) (by exact Nat.zero_le _) trivial ⟨?_, rfl⟩
        refine bool_eq ?_; exact (few_no hk hk2 (by omega)).symm
      · try simp only [Z.a, Z.b, Z.c, Z.d, Z.e, Z.f, Z.g, Z.h, Z.i, Z.j, Z.k, Z.l, Z.m] at h3
        have hz := h3
        refine RO.nil ?_
        refine Runs.condF rfl ?_
        refine Runs.skip ?_
        refine blockQ_normal ?_
        refine thenQ_normal ?_
        refine Runs.has [(0, .d (.list (encs _))), (3, .d (.int _ _))] ⟨rfl, rfl, trivial⟩ ?_
        refine Runs.region ?_
        refine RO.opv (v' := .d (.int _ _)) (opv_move rfl) rfl ?_
        refine RO.opv (v' := .d (.int _ _)) (opv_bin rfl rfl rfl) rfl ?_
        refine RO.opv (v' := .d (.int _ _)) (opv_assign rfl) rfl ?_
        refine RO.nil ?_
        refine thenQ_normal ?_
        refine ⟨i + 1, 0, (by rw [hK]; exact Nat.le_of_ble_eq_true rfl), ⟨rfl, trivial⟩, ⟨?_, trivial⟩, rfl, ?_, ?_⟩
        · refine int_eq ?_; rw [wrap64 (by omega) (by omega)]; omega
        · refine ⟨by omega, by omega, ?_⟩
          rw [List.take_succ_eq_append_getElem hk, List.all_append, hi.2.2]; simp; omega
        · omega
    · try simp only [Z.a, Z.b, Z.c, Z.d, Z.e, Z.f, Z.g, Z.h, Z.i, Z.j, Z.k, Z.l, Z.m] at h2
      have hk2 : i = 61 := by omega
      refine RO.nil ?_
      refine Runs.condF rfl ?_
      refine Runs.exit ?_
      refine thenQ_exit ?_
      refine thenQ_exit ?_
      refine blockQ_here ?_
      refine thenQ_normal ?_
      refine Runs.has [(0, .d (.list (encs _)))] ⟨rfl, trivial⟩ ?_
      refine Runs.rseq ?_
      refine RO.opv (v' := .d (.list (encs _))) (opv_move rfl) rfl ?_
      refine RO.opv (v' := .d (.int _ _)) (opv_len_terms rfl) rfl ?_
      refine RO.opv (v' := .d (.bool _)) (opv_bin rfl rfl rfl) rfl ?_
      refine RO.opv (v' := .d (.bool _)) (opv_assign rfl) rfl ?_
      refine RO.nil ?_
      refine Runs.ret ?_
      refine EndQ.tmp (.inr rfl) rfl rfl 0 (by exact Nat.le_refl _) (by exact Nat.zero_le _) trivial ⟨?_, rfl⟩
      refine bool_eq ?_; exact (few_end (.inr hk2) hi.2.2 ).symm
  · try simp only [Z.a, Z.b, Z.c, Z.d, Z.e, Z.f, Z.g, Z.h, Z.i, Z.j, Z.k, Z.l, Z.m] at h1
    have hk : i = ts.length := by omega
    refine RO.off rfl ?_
    refine RO.off rfl ?_
    refine RO.opv (v' := .d (.bool false)) (opv_pick rfl rfl) rfl ?_
    refine RO.nil ?_
    refine Runs.condF rfl ?_
    refine Runs.exit ?_
    refine thenQ_exit ?_
    refine thenQ_exit ?_
    refine blockQ_here ?_
    refine thenQ_normal ?_
    refine Runs.has [(0, .d (.list (encs _)))] ⟨rfl, trivial⟩ ?_
    refine Runs.rseq ?_
    refine RO.opv (v' := .d (.list (encs _))) (opv_move rfl) rfl ?_
    refine RO.opv (v' := .d (.int _ _)) (opv_len_terms rfl) rfl ?_
    refine RO.opv (v' := .d (.bool _)) (opv_bin rfl rfl rfl) rfl ?_
    refine RO.opv (v' := .d (.bool _)) (opv_assign rfl) rfl ?_
    refine RO.nil ?_
    refine Runs.ret ?_
    refine EndQ.tmp (.inr rfl) rfl rfl 0 (by exact Nat.le_refl _) (by exact Nat.zero_le _) trivial ⟨?_, rfl⟩
    refine bool_eq ?_; exact (few_end (.inl hk) hi.2.2).symm
theorem ris_fn (t : Term) (s : ByteArray) (n : Int) : Fn Try.prog 51 [.d (enc t), .d (.str s), .d (.int .i64 n)] [] (.d (.bool (t.isN s n))) [] := by
  refine Does.run Try.func51 rfl Try.ntmps51 rfl fun K hK => ?_
  refine Runs.rseq ?_
  refine RO.opn (v' := .ref 0 0) (O' := [_]) (opv_box_term rfl) rfl rfl ?_
  refine RO.opv (v' := .d (.bool false)) (opv_assign rfl) rfl ?_
  refine RO.nil ?_
  refine Runs.has [(1, .d (.str _)), (2, .d (.int _ _)), (3, .ref 0 0), (6, .d (.bool false))] ⟨rfl, rfl, rfl, rfl, trivial⟩ ?_
  refine Runs.rseq ?_
  refine RO.opv (v' := .ref 0 0) (opv_field_ref rfl rfl) rfl ?_
  refine RO.opv (v' := .d (.int _ _)) (opv_load_ref rfl rfl rfl) rfl ?_
  refine RO.opv (v' := .d (.bool _)) (opv_bin rfl rfl rfl) rfl ?_
  refine RO.opc (opv_move rfl) (fun h1 => ?_) (fun h1 => ?_)
  · skip
    have e1 : decide (t.kind = 3) = (t.kind == 3) := rfl
    rw [h1] at e1
    refine RO.opgv (v' := .ref 0 2) rfl (opv_field_ref rfl rfl) rfl ?_
    refine RO.opgv (v' := .d (.str _)) rfl (opv_load_ref rfl rfl rfl) rfl ?_
    refine RO.opgv (v' := .d (.str _)) rfl (opv_move rfl) rfl ?_
    refine RO.opgv (v' := .d (.bool _)) rfl (opv_bin rfl rfl rfl) rfl ?_
    refine RO.opv (v' := .d (.bool _)) (opv_pick rfl rfl) rfl ?_
    refine RO.opc (opv_move rfl) (fun h2 => ?_) (fun h2 => ?_)
    · skip
      have e2 : (t.name.toList == s.toList) = _ := h2
      refine RO.opgv (v' := .ref 0 3) rfl (opv_field_ref rfl rfl) rfl ?_
      refine RO.opgv (v' := .d (.list (encs _))) rfl (opv_load_ref rfl rfl rfl) rfl ?_
      refine RO.opgv (v' := .d (.int _ _)) rfl (opv_len_terms rfl) rfl ?_
      refine RO.opgv (v' := .d (.int _ _)) rfl (opv_move rfl) rfl ?_
      refine RO.opgv (v' := .d (.bool _)) rfl (opv_bin rfl rfl rfl) rfl ?_
      refine RO.opv (v' := .d (.bool _)) (opv_pick rfl rfl) rfl ?_
      refine RO.opv (v' := .d (.bool _)) (opv_assign rfl) rfl ?_
      refine RO.nil ?_
      refine Runs.ret ?_
      refine EndQ.tmp (.inr rfl) rfl rfl 0 (by exact Nat.le_refl _) (by exact Nat.zero_le _) trivial ⟨?_, rfl⟩
      refine bool_eq ?_
      first
        | (simp only [Term.isN, *, Bool.true_and, Bool.false_and]; done)
        | (simp only [Term.isN, *, Bool.true_and, Bool.false_and]; first | done | rfl | (rw [Bool.eq_iff_iff]; simp; done) | (rw [Bool.eq_iff_iff]; simp; omega))
    · skip
      have e2 : (t.name.toList == s.toList) = _ := h2
      refine RO.off rfl ?_
      refine RO.off rfl ?_
      refine RO.off rfl ?_
      refine RO.off rfl ?_
      refine RO.off rfl ?_
      refine RO.opv (v' := .d (.bool false)) (opv_pick rfl rfl) rfl ?_
      refine RO.opv (v' := .d (.bool false)) (opv_assign rfl) rfl ?_
      refine RO.nil ?_
      refine Runs.ret ?_
      refine EndQ.tmp (.inr rfl) rfl rfl 0 (by exact Nat.le_refl _) (by exact Nat.zero_le _) trivial ⟨?_, rfl⟩
      refine bool_eq ?_
      first
        | (simp only [Term.isN, *, Bool.true_and, Bool.false_and]; done)
        | (simp only [Term.isN, *, Bool.true_and, Bool.false_and]; first | done | rfl | (rw [Bool.eq_iff_iff]; simp; done) | (rw [Bool.eq_iff_iff]; simp; omega))
  · skip
    have e1 : decide (t.kind = 3) = (t.kind == 3) := rfl
    rw [h1] at e1
    refine RO.off rfl ?_
    refine RO.off rfl ?_
    refine RO.off rfl ?_
    refine RO.off rfl ?_
    refine RO.opv (v' := .d (.bool false)) (opv_pick rfl rfl) rfl ?_
    refine RO.opv (v' := .d (.bool false)) (opv_move rfl) rfl ?_
    refine RO.off rfl ?_
    refine RO.off rfl ?_
    refine RO.off rfl ?_
    refine RO.off rfl ?_
    refine RO.off rfl ?_
    refine RO.opv (v' := .d (.bool false)) (opv_pick rfl rfl) rfl ?_
    refine RO.opv (v' := .d (.bool false)) (opv_assign rfl) rfl ?_
    refine RO.nil ?_
    refine Runs.ret ?_
    refine EndQ.tmp (.inr rfl) rfl rfl 0 (by exact Nat.le_refl _) (by exact Nat.zero_le _) trivial ⟨?_, rfl⟩
    refine bool_eq ?_
    first
      | (simp only [Term.isN, *, Bool.true_and, Bool.false_and]; done)
      | (simp only [Term.isN, *, Bool.true_and, Bool.false_and]; first | done | rfl | (rw [Bool.eq_iff_iff]; simp; done) | (rw [Bool.eq_iff_iff]; simp; omega))
theorem has_aux (s : ByteArray) (n : Int) : ∀ (m : Nat) (t : Term), t.size ≤ m → t.bulk ≤ 2 ^ 30 → Fn Try.prog 21 [.d (enc t), .d (.str s), .d (.int .i64 n)] [] (.d (.bool (t.hasB s n))) [] := by
  intro m
  induction m with
  | zero => intro t h; have := t.size_kids; omega
  | succ m ih =>
  intro t hm hb
  have hS := t.size_kids
  have hU := t.bulk_kids
  have hL := bulks_len t.kids
  refine Does.run Try.func21 rfl Try.ntmps21 rfl fun K hK => ?_
  refine Runs.rseq ?_
  refine RO.opn (v' := .ref 0 0) (O' := [_]) (opv_box_term rfl) rfl rfl ?_
  refine RO.opv (v' := .d (.bool false)) (opv_assign rfl) rfl ?_
  refine RO.nil ?_
  refine Runs.has [(1, .d (.str _)), (2, .d (.int _ _)), (3, .ref 0 0), (6, .d (.bool false))] ⟨rfl, rfl, rfl, rfl, trivial⟩ ?_
  refine Runs.seq ?_
  refine Runs.rseq ?_
  refine RO.opv (v' := .d (enc _)) (opv_load_term rfl rfl rfl) rfl ?_
  refine RO.opv (v' := .d (.str _)) (opv_move rfl) rfl ?_
  refine RO.opv (v' := .d (.int _ _)) (opv_move rfl) rfl ?_
  refine RO.opc (opv_callF (ris_fn t s n) rfl rfl rfl trivial) (fun h1 => ?_) (fun h1 => ?_)
  · try simp only [Z.a, Z.b, Z.c, Z.d, Z.e, Z.f, Z.g, Z.h, Z.i, Z.j, Z.k, Z.l, Z.m] at h1
    have hi0 := h1
    refine RO.nil ?_
    refine Runs.condT rfl ?_
    refine Runs.has [(1, .d (.str _)), (2, .d (.int _ _)), (3, .ref 0 0), (6, .d (.bool false))] ⟨rfl, rfl, rfl, rfl, trivial⟩ ?_
    refine Runs.rseq ?_
    refine RO.opv (v' := .d (.bool true)) (opv_assign rfl) rfl ?_
    refine RO.nil ?_
    refine Runs.ret ?_
    refine thenQ_ret ?_
    refine EndQ.tmp (.inr rfl) rfl rfl 0 (by exact Nat.le_refl _) (by exact Nat.zero_le _) trivial ⟨?_, rfl⟩
    refine bool_eq ?_; rw [hasB_eq, hi0]; rfl
  · try simp only [Z.a, Z.b, Z.c, Z.d, Z.e, Z.f, Z.g, Z.h, Z.i, Z.j, Z.k, Z.l, Z.m] at h1
    have hi0 := h1
    refine RO.nil ?_
    refine Runs.condF rfl ?_
    refine Runs.skip ?_
    refine thenQ_normal ?_
    refine Runs.has [(1, .d (.str _)), (2, .d (.int _ _)), (3, .ref 0 0), (6, .d (.bool false))] ⟨rfl, rfl, rfl, rfl, trivial⟩ ?_
    refine Runs.seq ?_
    refine Runs.rseq ?_
    refine RO.opv (v' := .d (.int _ _)) (opv_assign rfl) rfl ?_
    refine RO.nil ?_
    refine Runs.block ?_
    refine Runs.loopC (X := Nat) (fun i => i ≤ t.kids.length ∧ ∀ (j : Nat) (hj : j < t.kids.length), j < i → t.kids[j].hasB s n = false) (fun i => t.kids.length - i) [(1, .d (.str _)), (2, .d (.int _ _)), (3, .ref 0 0)] (fun i => [(7, .d (.int .i64 (i : Nat)))]) [_] (fun i => []) (0) ⟨rfl, rfl, rfl, trivial⟩ ⟨rfl, trivial⟩ rfl ⟨Nat.zero_le _, fun j _ h => absurd h (Nat.not_lt_zero _)⟩ fun i hi => ?_
    refine Runs.seq ?_
    refine Runs.rseq ?_
    refine RO.opv (v' := .d (.int _ _)) (opv_move rfl) rfl ?_
    refine RO.opv (v' := .ref 0 3) (opv_field_ref rfl rfl) rfl ?_
    refine RO.opv (v' := .d (.list (encs _))) (opv_load_ref rfl rfl rfl) rfl ?_
    refine RO.opv (v' := .d (.int _ _)) (opv_len_terms rfl) rfl ?_
    refine RO.opc (opv_bin rfl rfl rfl) (fun h2 => ?_) (fun h2 => ?_)
    · try simp only [Z.a, Z.b, Z.c, Z.d, Z.e, Z.f, Z.g, Z.h, Z.i, Z.j, Z.k, Z.l, Z.m] at h2
      have hk : i < t.kids.length := by omega
      refine RO.nil ?_
      refine Runs.condT rfl ?_
      refine Runs.skip ?_
      refine thenQ_normal ?_
      refine Runs.has [(1, .d (.str _)), (2, .d (.int _ _)), (3, .ref 0 0), (7, .d (.int _ _))] ⟨rfl, rfl, rfl, rfl, trivial⟩ ?_
      refine Runs.seq ?_
      refine Runs.block ?_
      refine Runs.rseq ?_
      refine RO.opv (v' := .ref 0 3) (opv_field_ref rfl rfl) rfl ?_
      refine RO.opv (v' := .d (.list (encs _))) (opv_load_ref rfl rfl rfl) rfl ?_
      refine RO.opv (v' := .d (.int _ _)) (opv_move rfl) rfl ?_
      refine RO.opv (v' := .d (.ptr _)) (opv_index_terms rfl rfl hk) rfl ?_
      refine RO.opv (v' := .d (enc _)) (opv_load_pterm rfl) rfl ?_
      refine RO.opv (v' := .d (.str _)) (opv_move rfl) rfl ?_
      refine RO.opv (v' := .d (.int _ _)) (opv_move rfl) rfl ?_
      refine RO.opc (opv_callF (ih t.kids[i] (by have := sizes_mem (List.getElem_mem (l := t.kids) (n := i) hk); omega) (by have := bulks_mem (List.getElem_mem (l := t.kids) (n := i) hk); omega)) rfl rfl rfl trivial) (fun h3 => ?_) (fun h3 => ?_)
      · try simp only [Z.a, Z.b, Z.c, Z.d, Z.e, Z.f, Z.g, Z.h, Z.i, Z.j, Z.k, Z.l, Z.m] at h3
        have ho := h3
        refine RO.nil ?_
        refine Runs.condT rfl ?_
        refine Runs.has [(1, .d (.str _)), (2, .d (.int _ _)), (3, .ref 0 0), (7, .d (.int _ _))] ⟨rfl, rfl, rfl, rfl, trivial⟩ ?_
        refine Runs.rseq ?_
        refine RO.opv (v' := .d (.bool true)) (opv_assign rfl) rfl ?_
        refine RO.nil ?_
        refine Runs.ret ?_
        refine blockQ_ret ?_
        refine thenQ_ret ?_
        refine thenQ_ret ?_
        refine blockQ_ret ?_
        refine thenQ_ret ?_
        refine EndQ.tmp (.inr rfl) rfl rfl 0 (by exact Nat.le_refl _) (by exact Nat.zero_le _) trivial ⟨?_, rfl⟩
        refine bool_eq ?_; exact (hasB_yes hk ho).symm
      · try simp only [Z.a, Z.b, Z.c, Z.d, Z.e, Z.f, Z.g, Z.h, Z.i, Z.j, Z.k, Z.l, Z.m] at h3
        have ho := h3
        refine RO.nil ?_
        refine Runs.condF rfl ?_
        refine Runs.skip ?_
        refine blockQ_normal ?_
        refine thenQ_normal ?_
        refine Runs.has [(1, .d (.str _)), (2, .d (.int _ _)), (3, .ref 0 0), (7, .d (.int _ _))] ⟨rfl, rfl, rfl, rfl, trivial⟩ ?_
        refine Runs.region ?_
        refine RO.opv (v' := .d (.int _ _)) (opv_move rfl) rfl ?_
        refine RO.opv (v' := .d (.int _ _)) (opv_bin rfl rfl rfl) rfl ?_
        refine RO.opv (v' := .d (.int _ _)) (opv_assign rfl) rfl ?_
        refine RO.nil ?_
        refine thenQ_normal ?_
        refine ⟨i + 1, 1, (by rw [hK]; exact Nat.le_of_ble_eq_true rfl), ⟨rfl, rfl, rfl, trivial⟩, ⟨?_, trivial⟩, rfl, ?_, ?_⟩
        · refine int_eq ?_; rw [wrap64 (by omega) (by omega)]; omega
        · refine ⟨by omega, fun j hj h => ?_⟩
          rcases Nat.lt_succ_iff_lt_or_eq.1 h with h' | h'
          · exact hi.2 j hj h'
          · subst h'; exact ho
        · omega
    · try simp only [Z.a, Z.b, Z.c, Z.d, Z.e, Z.f, Z.g, Z.h, Z.i, Z.j, Z.k, Z.l, Z.m] at h2
      have hk : i = t.kids.length := by omega
      refine RO.nil ?_
      refine Runs.condF rfl ?_
      refine Runs.exit ?_
      refine thenQ_exit ?_
      refine thenQ_exit ?_
      refine blockQ_here ?_
      refine thenQ_normal ?_
      refine Runs.has [] trivial ?_
      refine Runs.rseq ?_
      refine RO.opv (v' := .d (.bool false)) (opv_assign rfl) rfl ?_
      refine RO.nil ?_
      refine Runs.ret ?_
      refine EndQ.tmp (.inr rfl) rfl rfl 0 (by exact Nat.le_refl _) (by exact Nat.zero_le _) trivial ⟨?_, rfl⟩
      refine bool_eq ?_; exact (hasB_no hi0 fun j hj => hi.2 j hj (by omega)).symm
theorem rhas_fn (t : Term) (s : ByteArray) (n : Int) (hb : t.bulk ≤ 2 ^ 30) : Fn Try.prog 21 [.d (enc t), .d (.str s), .d (.int .i64 n)] [] (.d (.bool (t.hasB s n))) [] := has_aux s n t.size t (Nat.le_refl _) hb
def wx (w : Int) : Term := .node 3 0 bWrite [.node 2 w ⟨#[]⟩ [], putS (.node 3 0 ⟨#[97]⟩ []) 1]
theorem shown_fn  : Fn Try.prog 8 [] [] (.d (.bool true)) [] := by
  refine Does.run Try.func8 rfl Try.ntmps8 rfl fun K hK => ?_
  refine Runs.rseq ?_
  refine RO.opv (v' := .d (.bool false)) (opv_assign rfl) rfl ?_
  refine RO.nil ?_
  refine Runs.rseq ?_
  refine RO.opv (v' := .d (.list (encPs _))) (opv_callF (chainp_fn 2 (by decide)) rfl rfl rfl trivial) rfl ?_
  refine RO.opv (opv_callF (lnewC_fn 2 (by decide)) rfl rfl rfl ⟨trivial, trivial, trivial⟩) rfl ?_
  refine RO.opv (opv_move rfl) rfl ?_
  refine RO.opv (v' := .d (encL _)) (opv_extract rfl rfl) rfl ?_
  refine RO.opv (v' := .d (.int _ _)) (opv_extract rfl rfl) rfl ?_
  refine RO.opv (v' := .d (encL _)) (opv_assign rfl) rfl ?_
  refine RO.opv (v' := .d (.int _ _)) (opv_assign rfl) rfl ?_
  refine RO.nil ?_
  refine Runs.has [(0, .d (.bool false)), (1, .d (encL _))] ⟨rfl, rfl, trivial⟩ ?_
  refine Runs.rseq ?_
  refine RO.opv (v' := .d (encL _)) (opv_move rfl) rfl ?_
  refine RO.opv (opv_callZ (dnew_fn (C 2) (C_ok (by decide)) [] (Nat.zero_le _)) rfl rfl rfl ⟨trivial, trivial, trivial, trivial⟩) rfl ?_
  refine RO.opv (opv_move rfl) rfl ?_
  refine RO.opv (v' := .d (encOB _ _)) (opv_extract rfl rfl) rfl ?_
  refine RO.opv (v' := .d (.int _ _)) (opv_extract rfl rfl) rfl ?_
  refine RO.opv (v' := .d (.int _ _)) (opv_extract rfl rfl) rfl ?_
  refine RO.opv (v' := .d (encOB _ _)) (opv_assign rfl) rfl ?_
  refine RO.opv (v' := .d (.int _ _)) (opv_assign rfl) rfl ?_
  refine RO.opv (v' := .d (.int _ _)) (opv_assign rfl) rfl ?_
  refine RO.nil ?_
  refine Runs.has [(0, .d (.bool false)), (1, .d (encL _)), (3, .d (encOB _ _)), (5, .d (.int _ _))] ⟨rfl, rfl, rfl, rfl, trivial⟩ ?_
  refine Runs.rseq ?_
  refine RO.opv (v' := .d (enc _)) (opv_callF (atom_fn ⟨#[97]⟩) rfl rfl rfl trivial) rfl ?_
  refine RO.opv (v' := .d (enc _)) (opv_callF (putS_fn _ _) rfl rfl rfl trivial) rfl ?_
  refine RO.opn (v' := .ref 0 0) (O' := [_]) (opv_alloc) rfl rfl ?_
  refine RO.op0n (O' := [_]) (opv_store_term rfl rfl rfl (Nat.le_of_ble_eq_true rfl)) rfl ?_
  refine RO.nil ?_
  refine Runs.has [(0, .d (.bool false)), (1, .d (encL _)), (3, .d (encOB _ _)), (5, .d (.int _ _)), (6, .ref 0 0)] ⟨rfl, rfl, rfl, rfl, rfl, trivial⟩ ?_
  refine Runs.seq ?_
  refine Runs.drawn (by kernel_rfl) [] [false, false, false, false, false, false, false, false, false, false, false, false, false] [false, false, false, false, false, false, false, false, false, false, false, false, false] (by decide +kernel) ?_
  refine RD.opv (v' := .d (encL _)) (opv_move rfl) rfl ?_
  refine RD.opv (v' := .d (encOB _ _)) (opv_move rfl) rfl ?_
  refine RD.opv (v' := .d (enc _)) (opv_callF (num_fn 0) rfl rfl rfl trivial) rfl ?_
  refine RD.opv (v' := .d (enc _)) (opv_load_term rfl rfl rfl) rfl ?_
  refine RD.opv (v' := .d (.list (encs _))) (opv_bs_term2 rfl rfl ) rfl ?_
  refine RD.opv (v' := .d (enc _)) (opv_callF (make_fn bWrite [.node 2 0 ⟨#[]⟩ [], putS (.node 3 0 ⟨#[97]⟩ []) 1] (Nat.le_of_ble_eq_true rfl)) rfl rfl rfl trivial) rfl ?_
  refine RD.opv (v' := .d (.list (encs _))) (opv_bs_term1 rfl ) rfl ?_
  refine RD.opv (opv_callF (accept_fn (C 2) (C_ok (by decide)) (newB (C 2) []).1 [wx 0] 0 (newB_all_len _ _) (newB_small (Nat.zero_le _)) (Nat.le_of_ble_eq_true (by decide +kernel))) rfl rfl rfl ⟨trivial, trivial, trivial⟩) rfl ?_
  refine RD.opv (opv_move rfl) rfl ?_
  refine RD.opv (v' := .d (.bool _)) (opv_extract rfl rfl) rfl ?_
  refine RD.opv (v' := .d (.str _)) (opv_extract rfl rfl) rfl ?_
  refine RD.opv (v' := .d (.bool _)) (opv_assign rfl) rfl ?_
  refine RD.opv (v' := .d (.str _)) (opv_assign rfl) rfl ?_
  refine RD.nil ?_
  refine thenQ_normal ?_
  refine Runs.has [(0, .d (.bool false)), (1, .d (encL _)), (3, .d (encOB _ _)), (5, .d (.int _ _)), (6, .ref 0 0), (7, .d (.bool _)), (8, .d (.str _))] ⟨rfl, rfl, rfl, rfl, rfl, rfl, rfl, trivial⟩ ?_
  refine Runs.seq ?_
  refine Runs.drawn (by kernel_rfl) [] [false, false, false, false, false, false, false, false, false, false, false, false, false] [false, false, false, false, false, false, false, false, false, false, false, false, false] (by decide +kernel) ?_
  refine RD.opv (v' := .d (encL _)) (opv_move rfl) rfl ?_
  refine RD.opv (v' := .d (encOB _ _)) (opv_move rfl) rfl ?_
  refine RD.opv (v' := .d (enc _)) (opv_callF (num_fn 1) rfl rfl rfl trivial) rfl ?_
  refine RD.opv (v' := .d (enc _)) (opv_load_term rfl rfl rfl) rfl ?_
  refine RD.opv (v' := .d (.list (encs _))) (opv_bs_term2 rfl rfl ) rfl ?_
  refine RD.opv (v' := .d (enc _)) (opv_callF (make_fn bWrite [.node 2 1 ⟨#[]⟩ [], putS (.node 3 0 ⟨#[97]⟩ []) 1] (Nat.le_of_ble_eq_true rfl)) rfl rfl rfl trivial) rfl ?_
  refine RD.opv (v' := .d (.list (encs _))) (opv_bs_term1 rfl ) rfl ?_
  refine RD.opv (opv_callF (accept_fn (C 2) (C_ok (by decide)) (newB (C 2) []).1 [wx 1] 0 (newB_all_len _ _) (newB_small (Nat.zero_le _)) (Nat.le_of_ble_eq_true (by decide +kernel))) rfl rfl rfl ⟨trivial, trivial, trivial⟩) rfl ?_
  refine RD.opv (opv_move rfl) rfl ?_
  refine RD.opv (v' := .d (.bool _)) (opv_extract rfl rfl) rfl ?_
  refine RD.opv (v' := .d (.str _)) (opv_extract rfl rfl) rfl ?_
  refine RD.opv (v' := .d (.bool _)) (opv_assign rfl) rfl ?_
  refine RD.opv (v' := .d (.str _)) (opv_assign rfl) rfl ?_
  refine RD.nil ?_
  refine thenQ_normal ?_
  refine Runs.has [(0, .d (.bool false)), (5, .d (.int _ _)), (7, .d (.bool _)), (8, .d (.str _)), (9, .d (.bool _)), (10, .d (.str _))] ⟨rfl, rfl, rfl, rfl, rfl, rfl, trivial⟩ ?_
  refine Runs.rseq ?_
  refine RO.opv (v' := .d (.int _ _)) (opv_move rfl) rfl ?_
  refine RO.opv (v' := .d (.bool _)) (opv_bin rfl rfl rfl) rfl ?_
  refine RO.opc (opv_move rfl) (fun h1 => ?_) (fun h1 => ?_)
  · skip
    refine RO.opgv (v' := .d (.bool _)) rfl (opv_move rfl) rfl ?_
    refine RO.opgv (v' := .d (.bool _)) rfl (opv_not rfl rfl) rfl ?_
    refine RO.opv (v' := .d (.bool _)) (opv_pick rfl rfl) rfl ?_
    refine RO.opc (opv_move rfl) (fun h2 => ?_) (fun h2 => ?_)
    · skip
      refine RO.opgv (v' := .d (.str _)) rfl (opv_move rfl) rfl ?_
      refine RO.opgv (v' := .d (.bool _)) rfl (opv_bin rfl rfl rfl) rfl ?_
      refine RO.opv (v' := .d (.bool _)) (opv_pick rfl rfl) rfl ?_
      refine RO.opc (opv_move rfl) (fun h3 => ?_) (fun h3 => ?_)
      · skip
        refine RO.opgv (v' := .d (.bool _)) rfl (opv_move rfl) rfl ?_
        refine RO.opv (v' := .d (.bool _)) (opv_pick rfl rfl) rfl ?_
        refine RO.opc (opv_move rfl) (fun h4 => ?_) (fun h4 => ?_)
        · skip
          refine RO.opgv (v' := .d (.str _)) rfl (opv_move rfl) rfl ?_
          refine RO.opgv (v' := .d (.bool _)) rfl (opv_bin rfl rfl rfl) rfl ?_
          refine RO.opv (v' := .d (.bool _)) (opv_pick rfl rfl) rfl ?_
          refine RO.opv (v' := .d (.bool _)) (opv_assign rfl) rfl ?_
          refine RO.nil ?_
          refine Runs.ret ?_
          refine EndQ.tmp (.inr rfl) rfl rfl 0 (by exact Nat.le_refl _) (by exact Nat.zero_le _) trivial ⟨?_, rfl⟩
          refine bool_eq ?_; decide +kernel
        · skip
          exact absurd h4 (by decide +kernel)
      · skip
        exact absurd h3 (by decide +kernel)
    · skip
      exact absurd h2 (by decide +kernel)
  · skip
    exact absurd h1 (by decide +kernel)
end Go.Proofs.Ytohncglpjiplaaa.AM
