import Derived.Test.YtohncglpjiplaaaHg
import Derived.Test.YtohncglpjiplaaaCg
import Derived.Test.YtohncglpjiplaaaD1
namespace Go.Proofs.Ytohncglpjiplaaa.AM
open Go
set_option linter.unusedVariables false
set_option linter.unusedSimpArgs false
set_option maxRecDepth 100000
instance : KeyT Try.prog 109 := ⟨⟨_, _, Try.underlying109, by decide, by decide, rfl, rfl, by kernel_rfl, by kernel_rfl⟩, by kernel_rfl, by kernel_rfl⟩
theorem two_fn (t : Term) (s : ByteArray) : Fn Try.prog 57 [.d (enc t), .d (.str s)] [] (.d (.bool (t.two s))) [] := by
  refine Does.run Try.func57 rfl Try.ntmps57 rfl fun K hK => ?_
  refine Runs.rseq ?_
  refine RO.opn (v' := .ref 0 0) (O' := [_]) (opv_box_term rfl) rfl rfl ?_
  refine RO.opv (v' := .d (.bool false)) (opv_assign rfl) rfl ?_
  refine RO.nil ?_
  refine Runs.has [(1, .d (.str _)), (2, .ref 0 0), (4, .d (.bool false))] ⟨rfl, rfl, rfl, trivial⟩ ?_
  refine Runs.rseq ?_
  refine RO.opv (v' := .ref 0 0) (opv_field_ref rfl rfl) rfl ?_
  refine RO.opv (v' := .d (.int _ _)) (opv_load_ref rfl rfl rfl) rfl ?_
  refine RO.opv (v' := .d (.bool _)) (opv_bin rfl rfl rfl) rfl ?_
  refine RO.opc (opv_move rfl) (fun h1 => ?_) (fun h1 => ?_)
  · skip
    have e1 : decide (t.kind = 3) = (t.kind == 3) := rfl
    rw [h1] at e1
    refine RO.opgv (v' := .ref 0 2) rfl (opv_field_ref rfl rfl) rfl ?_
    refine RO.opgv (v' := .d (.str _)) rfl (opv_load_ref rfl rfl rfl) rfl ?_
    refine RO.opgv (v' := .d (.str _)) rfl (opv_move rfl) rfl ?_
    refine RO.opgv (v' := .d (.bool _)) rfl (opv_bin rfl rfl rfl) rfl ?_
    refine RO.opv (v' := .d (.bool _)) (opv_pick rfl rfl) rfl ?_
    refine RO.opc (opv_move rfl) (fun h2 => ?_) (fun h2 => ?_)
    · skip
      have e2 : (t.name.toList == s.toList) = _ := h2
      refine RO.opgv (v' := .ref 0 3) rfl (opv_field_ref rfl rfl) rfl ?_
      refine RO.opgv (v' := .d (.list (encs _))) rfl (opv_load_ref rfl rfl rfl) rfl ?_
      refine RO.opgv (v' := .d (.int _ _)) rfl (opv_len_terms rfl) rfl ?_
      refine RO.opgv (v' := .d (.bool _)) rfl (opv_bin rfl rfl rfl) rfl ?_
      refine RO.opv (v' := .d (.bool _)) (opv_pick rfl rfl) rfl ?_
      refine RO.opv (v' := .d (.bool _)) (opv_assign rfl) rfl ?_
      refine RO.nil ?_
      refine Runs.ret ?_
      refine EndQ.tmp (.inr rfl) rfl rfl 0 (by exact Nat.le_refl _) (by exact Nat.zero_le _) trivial ⟨?_, rfl⟩
      refine bool_eq ?_
      first
        | (simp only [Term.two, *, Bool.true_and, Bool.false_and]; done)
        | (simp only [Term.two, *, Bool.true_and, Bool.false_and]; first | done | (rw [Bool.eq_iff_iff]; simp; done) | (rw [Bool.eq_iff_iff]; simp; omega))
    · skip
      have e2 : (t.name.toList == s.toList) = _ := h2
      refine RO.off rfl ?_
      refine RO.off rfl ?_
      refine RO.off rfl ?_
      refine RO.off rfl ?_
      refine RO.opv (v' := .d (.bool false)) (opv_pick rfl rfl) rfl ?_
      refine RO.opv (v' := .d (.bool false)) (opv_assign rfl) rfl ?_
      refine RO.nil ?_
      refine Runs.ret ?_
      refine EndQ.tmp (.inr rfl) rfl rfl 0 (by exact Nat.le_refl _) (by exact Nat.zero_le _) trivial ⟨?_, rfl⟩
      refine bool_eq ?_
      first
        | (simp only [Term.two, *, Bool.true_and, Bool.false_and]; done)
        | (simp only [Term.two, *, Bool.true_and, Bool.false_and]; first | done | (rw [Bool.eq_iff_iff]; simp; done) | (rw [Bool.eq_iff_iff]; simp; omega))
  · skip
    have e1 : decide (t.kind = 3) = (t.kind == 3) := rfl
    rw [h1] at e1
    refine RO.off rfl ?_
    refine RO.off rfl ?_
    refine RO.off rfl ?_
    refine RO.off rfl ?_
    refine RO.opv (v' := .d (.bool false)) (opv_pick rfl rfl) rfl ?_
    refine RO.opv (v' := .d (.bool false)) (opv_move rfl) rfl ?_
    refine RO.off rfl ?_
    refine RO.off rfl ?_
    refine RO.off rfl ?_
    refine RO.off rfl ?_
    refine RO.opv (v' := .d (.bool false)) (opv_pick rfl rfl) rfl ?_
    refine RO.opv (v' := .d (.bool false)) (opv_assign rfl) rfl ?_
    refine RO.nil ?_
    refine Runs.ret ?_
    refine EndQ.tmp (.inr rfl) rfl rfl 0 (by exact Nat.le_refl _) (by exact Nat.zero_le _) trivial ⟨?_, rfl⟩
    refine bool_eq ?_
    first
      | (simp only [Term.two, *, Bool.true_and, Bool.false_and]; done)
      | (simp only [Term.two, *, Bool.true_and, Bool.false_and]; first | done | (rw [Bool.eq_iff_iff]; simp; done) | (rw [Bool.eq_iff_iff]; simp; omega))
theorem rtwo_fn (t : Term) (s : ByteArray) : Fn Try.prog 60 [.d (enc t), .d (.str s)] [] (.d (.bool (t.two s))) [] := by
  refine Does.run Try.func60 rfl Try.ntmps60 rfl fun K hK => ?_
  refine Runs.rseq ?_
  refine RO.opn (v' := .ref 0 0) (O' := [_]) (opv_box_term rfl) rfl rfl ?_
  refine RO.opv (v' := .d (.bool false)) (opv_assign rfl) rfl ?_
  refine RO.nil ?_
  refine Runs.has [(1, .d (.str _)), (2, .ref 0 0), (4, .d (.bool false))] ⟨rfl, rfl, rfl, trivial⟩ ?_
  refine Runs.rseq ?_
  refine RO.opv (v' := .ref 0 0) (opv_field_ref rfl rfl) rfl ?_
  refine RO.opv (v' := .d (.int _ _)) (opv_load_ref rfl rfl rfl) rfl ?_
  refine RO.opv (v' := .d (.bool _)) (opv_bin rfl rfl rfl) rfl ?_
  refine RO.opc (opv_move rfl) (fun h1 => ?_) (fun h1 => ?_)
  · skip
    have e1 : decide (t.kind = 3) = (t.kind == 3) := rfl
    rw [h1] at e1
    refine RO.opgv (v' := .ref 0 2) rfl (opv_field_ref rfl rfl) rfl ?_
    refine RO.opgv (v' := .d (.str _)) rfl (opv_load_ref rfl rfl rfl) rfl ?_
    refine RO.opgv (v' := .d (.str _)) rfl (opv_move rfl) rfl ?_
    refine RO.opgv (v' := .d (.bool _)) rfl (opv_bin rfl rfl rfl) rfl ?_
    refine RO.opv (v' := .d (.bool _)) (opv_pick rfl rfl) rfl ?_
    refine RO.opc (opv_move rfl) (fun h2 => ?_) (fun h2 => ?_)
    · skip
      have e2 : (t.name.toList == s.toList) = _ := h2
      refine RO.opgv (v' := .ref 0 3) rfl (opv_field_ref rfl rfl) rfl ?_
      refine RO.opgv (v' := .d (.list (encs _))) rfl (opv_load_ref rfl rfl rfl) rfl ?_
      refine RO.opgv (v' := .d (.int _ _)) rfl (opv_len_terms rfl) rfl ?_
      refine RO.opgv (v' := .d (.bool _)) rfl (opv_bin rfl rfl rfl) rfl ?_
      refine RO.opv (v' := .d (.bool _)) (opv_pick rfl rfl) rfl ?_
      refine RO.opv (v' := .d (.bool _)) (opv_assign rfl) rfl ?_
      refine RO.nil ?_
      refine Runs.ret ?_
      refine EndQ.tmp (.inr rfl) rfl rfl 0 (by exact Nat.le_refl _) (by exact Nat.zero_le _) trivial ⟨?_, rfl⟩
      refine bool_eq ?_
      first
        | (simp only [Term.two, *, Bool.true_and, Bool.false_and]; done)
        | (simp only [Term.two, *, Bool.true_and, Bool.false_and]; first | done | (rw [Bool.eq_iff_iff]; simp; done) | (rw [Bool.eq_iff_iff]; simp; omega))
    · skip
      have e2 : (t.name.toList == s.toList) = _ := h2
      refine RO.off rfl ?_
      refine RO.off rfl ?_
      refine RO.off rfl ?_
      refine RO.off rfl ?_
      refine RO.opv (v' := .d (.bool false)) (opv_pick rfl rfl) rfl ?_
      refine RO.opv (v' := .d (.bool false)) (opv_assign rfl) rfl ?_
      refine RO.nil ?_
      refine Runs.ret ?_
      refine EndQ.tmp (.inr rfl) rfl rfl 0 (by exact Nat.le_refl _) (by exact Nat.zero_le _) trivial ⟨?_, rfl⟩
      refine bool_eq ?_
      first
        | (simp only [Term.two, *, Bool.true_and, Bool.false_and]; done)
        | (simp only [Term.two, *, Bool.true_and, Bool.false_and]; first | done | (rw [Bool.eq_iff_iff]; simp; done) | (rw [Bool.eq_iff_iff]; simp; omega))
  · skip
    have e1 : decide (t.kind = 3) = (t.kind == 3) := rfl
    rw [h1] at e1
    refine RO.off rfl ?_
    refine RO.off rfl ?_
    refine RO.off rfl ?_
    refine RO.off rfl ?_
    refine RO.opv (v' := .d (.bool false)) (opv_pick rfl rfl) rfl ?_
    refine RO.opv (v' := .d (.bool false)) (opv_move rfl) rfl ?_
    refine RO.off rfl ?_
    refine RO.off rfl ?_
    refine RO.off rfl ?_
    refine RO.off rfl ?_
    refine RO.opv (v' := .d (.bool false)) (opv_pick rfl rfl) rfl ?_
    refine RO.opv (v' := .d (.bool false)) (opv_assign rfl) rfl ?_
    refine RO.nil ?_
    refine Runs.ret ?_
    refine EndQ.tmp (.inr rfl) rfl rfl 0 (by exact Nat.le_refl _) (by exact Nat.zero_le _) trivial ⟨?_, rfl⟩
    refine bool_eq ?_
    first
      | (simp only [Term.two, *, Bool.true_and, Bool.false_and]; done)
      | (simp only [Term.two, *, Bool.true_and, Bool.false_and]; first | done | (rw [Bool.eq_iff_iff]; simp; done) | (rw [Bool.eq_iff_iff]; simp; omega))
theorem known_fn (s : ByteArray) (n : Int) : Fn Try.prog 58 [.d (.str s), .d (.int .i64 n)] [] (.d (.bool (knownB s n))) [] := by
  refine Does.run Try.func58 rfl Try.ntmps58 rfl fun K hK => ?_
  refine Runs.rseq ?_
  refine RO.opv (v' := .d (.bool false)) (opv_assign rfl) rfl ?_
  refine RO.nil ?_
  refine Runs.rseq ?_
  refine RO.opv (v' := .d (.agg _)) (opv_build rfl) rfl ?_
  refine RO.opv (v' := .d (.agg _)) (opv_build rfl) rfl ?_
  refine RO.opv (v' := .d (.agg _)) (opv_build rfl) rfl ?_
  refine RO.opv (v' := .d (.agg _)) (opv_build rfl) rfl ?_
  refine RO.opv (v' := .d (.agg _)) (opv_build rfl) rfl ?_
  refine RO.opv (v' := .d (.agg _)) (opv_build rfl) rfl ?_
  refine RO.opv (v' := .d (.agg _)) (opv_build rfl) rfl ?_
  refine RO.opv (v' := .d (.agg _)) (opv_build rfl) rfl ?_
  refine RO.opv (v' := .d (.agg _)) (opv_build rfl) rfl ?_
  refine RO.opv (v' := .d (.agg _)) (opv_build rfl) rfl ?_
  refine RO.opv (v' := .d (.agg _)) (opv_build rfl) rfl ?_
  refine RO.opv (v' := .d (.agg _)) (opv_build rfl) rfl ?_
  refine RO.opv (v' := .d (.agg _)) (opv_build rfl) rfl ?_
  refine RO.opv (v' := .d (.agg _)) (opv_build rfl) rfl ?_
  refine RO.opv (v' := .d (.agg _)) (opv_build rfl) rfl ?_
  refine RO.opv (v' := .d (.agg _)) (opv_build rfl) rfl ?_
  refine RO.opv (v' := .d (.agg _)) (opv_build rfl) rfl ?_
  refine RO.opv (v' := .d (.agg _)) (opv_build rfl) rfl ?_
  refine RO.opv (v' := .d (.agg _)) (opv_build rfl) rfl ?_
  refine RO.opv (v' := .d (.agg _)) (opv_build rfl) rfl ?_
  refine RO.opv (v' := .d (.agg _)) (opv_build rfl) rfl ?_
  refine RO.opv (v' := .d (.agg _)) (opv_build rfl) rfl ?_
  refine RO.opv (v' := .d (.agg _)) (opv_build rfl) rfl ?_
  refine RO.opv (v' := .d (.agg _)) (opv_build rfl) rfl ?_
  refine RO.opv (v' := .d (.agg _)) (opv_build rfl) rfl ?_
  refine RO.opv (v' := .d (.agg _)) (opv_build rfl) rfl ?_
  refine RO.opv (v' := .d (.agg _)) (opv_build rfl) rfl ?_
  refine RO.opv (v' := .d (.agg _)) (opv_build_arr rfl) rfl ?_
  refine RO.opn (v' := .ref 0 0) (O' := [_]) (opv_alloc) rfl rfl ?_
  refine RO.op0n (O' := [_]) (opv_store_ref rfl rfl rfl rfl rfl (Nat.le_of_ble_eq_true rfl) rfl) rfl ?_
  refine RO.nil ?_
  refine Runs.has [(0, .d (.str _)), (1, .d (.int _ _)), (4, .d (.bool false)), (5, .ref 0 0)] ⟨rfl, rfl, rfl, rfl, trivial⟩ ?_
  refine Runs.seq ?_
  refine Runs.rseq ?_
  refine RO.opv (v' := .d (.agg _)) (opv_load_ref (v := .d (.agg (keysD keys))) rfl rfl (by kernel_rfl)) rfl ?_
  refine RO.opv (v' := .d (.int _ _)) (opv_move rfl) rfl ?_
  refine RO.nil ?_
  refine Runs.block ?_
  refine Runs.loopC (X := Nat) (fun i => i ≤ 27 ∧ ∀ (j : Nat) (hj : j < keys.length), j < i → keyHit s n keys[j] = false) (fun i => 27 - i) [(0, .d (.str _)), (1, .d (.int _ _)), (36, .d (.agg _))] (fun i => [(37, .d (.int .i64 (i : Nat)))]) [_] (fun i => []) (0) ⟨rfl, rfl, rfl, trivial⟩ ⟨rfl, trivial⟩ rfl ⟨Nat.zero_le _, fun j _ h => absurd h (Nat.not_lt_zero _)⟩ fun i hi => ?_
  refine Runs.rseq ?_
  refine RO.opc (opv_bin rfl rfl rfl) (fun h1 => ?_) (fun h1 => ?_)
  · try simp only [Z.a, Z.b, Z.c, Z.d, Z.e, Z.f, Z.g, Z.h, Z.i, Z.j, Z.k, Z.l, Z.m] at h1
    have hk : i < keys.length := by have h27 : keys.length = 27 := rfl; omega
    refine RO.nil ?_
    refine Runs.seq ?_
    refine Runs.condT rfl ?_
    refine Runs.skip ?_
    refine thenQ_normal ?_
    refine Runs.has [(0, .d (.str _)), (1, .d (.int _ _)), (36, .d (.agg _)), (37, .d (.int _ _))] ⟨rfl, rfl, rfl, rfl, trivial⟩ ?_
    refine Runs.seq ?_
    refine Runs.block ?_
    refine Runs.rseq ?_
    refine RO.opv (v' := .d (.agg _)) (opv_index_keys (l := keys) rfl rfl hk rfl) rfl ?_
    refine RO.opn (v' := .ref 1 0) (O' := [_, _]) (opv_alloc) rfl rfl ?_
    refine RO.op0n (O' := [_, _]) (opv_store_ref rfl rfl rfl rfl rfl (Nat.le_of_ble_eq_true rfl) rfl) rfl ?_
    refine RO.nil ?_
    refine Runs.has [(0, .d (.str _)), (1, .d (.int _ _)), (7, .ref 1 0), (36, .d (.agg _)), (37, .d (.int _ _))] ⟨rfl, rfl, rfl, rfl, rfl, trivial⟩ ?_
    refine Runs.rseq ?_
    refine RO.opv (v' := .d (.agg _)) (opv_load_ref rfl rfl rfl) rfl ?_
    refine RO.opv (v' := .d (.str _)) (opv_move rfl) rfl ?_
    refine RO.opv (v' := .d (.int _ _)) (opv_move rfl) rfl ?_
    refine RO.opv (v' := .d (.agg _)) (opv_build rfl) rfl ?_
    refine RO.opc (opv_eql_key rfl rfl) (fun h2 => ?_) (fun h2 => ?_)
    · try simp only [Z.a, Z.b, Z.c, Z.d, Z.e, Z.f, Z.g, Z.h, Z.i, Z.j, Z.k, Z.l, Z.m] at h2
      have hq : keyHit s n keys[i] = true := h2
      refine RO.nil ?_
      refine Runs.condT rfl ?_
      refine Runs.has [(0, .d (.str _)), (1, .d (.int _ _)), (36, .d (.agg _)), (37, .d (.int _ _))] ⟨rfl, rfl, rfl, rfl, trivial⟩ ?_
      refine Runs.rseq ?_
      refine RO.opv (v' := .d (.bool true)) (opv_assign rfl) rfl ?_
      refine RO.nil ?_
      refine Runs.ret ?_
      refine blockQ_ret ?_
      refine thenQ_ret ?_
      refine thenQ_ret ?_
      refine blockQ_ret ?_
      refine thenQ_ret ?_
      refine EndQ.tmp (.inr rfl) rfl rfl 0 (by exact Nat.le_refl _) (by exact Nat.zero_le _) trivial ⟨?_, rfl⟩
      refine bool_eq ?_; exact (known_hit hk hq).symm
    · try simp only [Z.a, Z.b, Z.c, Z.d, Z.e, Z.f, Z.g, Z.h, Z.i, Z.j, Z.k, Z.l, Z.m] at h2
      have hq : keyHit s n keys[i] = false := h2
      refine RO.nil ?_
      refine Runs.condF rfl ?_
      refine Runs.skip ?_
      refine blockQ_normal ?_
      refine thenQ_normal ?_
      refine Runs.has [(0, .d (.str _)), (1, .d (.int _ _)), (36, .d (.agg _)), (37, .d (.int _ _))] ⟨rfl, rfl, rfl, rfl, trivial⟩ ?_
      refine Runs.region ?_
      refine RO.opv (v' := .d (.int _ _)) (opv_bin rfl rfl rfl) rfl ?_
      refine RO.opv (v' := .d (.int _ _)) (opv_move rfl) rfl ?_
      refine RO.nil ?_
      refine thenQ_normal ?_
      refine ⟨i + 1, 1, (by rw [hK]; exact Nat.le_of_ble_eq_true rfl), ⟨rfl, rfl, rfl, trivial⟩, ⟨?_, trivial⟩, rfl, ?_, ?_⟩
      · refine int_eq ?_; rw [wrap64 (by omega) (by omega)]; omega
      · refine ⟨by have h27 : keys.length = 27 := rfl; omega, fun j hj h => ?_⟩
        rcases Nat.lt_succ_iff_lt_or_eq.1 h with h' | h'
        · exact hi.2 j hj h'
        · subst h'; exact hq
      · omega
  · try simp only [Z.a, Z.b, Z.c, Z.d, Z.e, Z.f, Z.g, Z.h, Z.i, Z.j, Z.k, Z.l, Z.m] at h1
    have hk : i = keys.length := by have h27 : keys.length = 27 := rfl; omega
    refine RO.nil ?_
    refine Runs.seq ?_
    refine Runs.condF rfl ?_
    refine Runs.exit ?_
    refine thenQ_exit ?_
    refine thenQ_exit ?_
    refine blockQ_here ?_
    refine thenQ_normal ?_
    refine Runs.has [] trivial ?_
    refine Runs.rseq ?_
    refine RO.opv (v' := .d (.bool false)) (opv_assign rfl) rfl ?_
    refine RO.nil ?_
    refine Runs.ret ?_
    refine EndQ.tmp (.inr rfl) rfl rfl 0 (by exact Nat.le_refl _) (by exact Nat.zero_le _) trivial ⟨?_, rfl⟩
    refine bool_eq ?_; exact (known_not fun j hj => hi.2 j hj (by omega)).symm
theorem parse_fn (l : Lt) (hl : l.Ok) (t : Term) (hb : t.bulk ≤ 2 ^ 28) : Fn Try.prog 34 [.d (encL l), .d (enc t)] [] (.tup [.d (encCl (parseL l t).1), .d (.int .i64 (parseL l t).2)]) [] := by
  have hU := t.bulk_kids
  refine Does.run Try.func34 rfl Try.ntmps34 rfl fun K hK => ?_
  refine Runs.rseq ?_
  refine RO.opn (v' := .ref 0 0) (O' := [_]) (opv_box_term rfl) rfl rfl ?_
  refine RO.opn (v' := .ref 1 0) (O' := [_, _]) (opv_alloc) rfl rfl ?_
  refine RO.opv (v' := .d (.int _ _)) (opv_assign rfl) rfl ?_
  refine RO.nil ?_
  refine Runs.has [(0, .d (encL _)), (3, .ref 0 0), (4, .ref 1 0), (5, .d (.int _ _))] ⟨rfl, rfl, rfl, rfl, trivial⟩ ?_
  refine Runs.rseq ?_
  refine RO.opv (v' := .d (encL _)) (opv_move rfl) rfl ?_
  refine RO.opv (v' := .d (.int _ _)) (opv_callF (lbot_fn l hl) rfl rfl rfl trivial) rfl ?_
  refine RO.opv (v' := .d (.int _ _)) (opv_assign rfl) rfl ?_
  refine RO.nil ?_
  refine Runs.has [(0, .d (encL _)), (3, .ref 0 0), (4, .ref 1 0), (5, .d (.int _ _)), (6, .d (.int _ _))] ⟨rfl, rfl, rfl, rfl, rfl, trivial⟩ ?_
  refine Runs.seq ?_
  refine Runs.rseq ?_
  refine RO.opv (v' := .d (enc _)) (opv_load_term rfl rfl rfl) rfl ?_
  refine RO.opc (opv_callF (two_fn _ _) rfl rfl rfl trivial) (fun h1 => ?_) (fun h1 => ?_)
  · try simp only [Z.a, Z.b, Z.c, Z.d, Z.e, Z.f, Z.g, Z.h, Z.i, Z.j, Z.k, Z.l, Z.m] at h1
    have hc : t.two ncol = true := h1
    have hlen := (two_iff.1 hc).2.2
    have hk0 : 0 < t.kids.length := by omega
    have hk1 : 1 < t.kids.length := by omega
    have hkb := bulks_mem (List.getElem_mem hk1)
    refine RO.nil ?_
    refine Runs.condT rfl ?_
    refine Runs.has [(0, .d (encL _)), (3, .ref 0 0), (4, .ref 1 0), (5, .d (.int _ _)), (6, .d (.int _ _))] ⟨rfl, rfl, rfl, rfl, rfl, trivial⟩ ?_
    refine Runs.rseq ?_
    refine RO.opv (v' := .ref 0 3) (opv_field_ref rfl rfl) rfl ?_
    refine RO.opv (v' := .d (.list (encs _))) (opv_load_ref rfl rfl rfl) rfl ?_
    refine RO.opv (v' := .d (.ptr _)) (opv_index_terms (i := 0) rfl rfl hk0) rfl ?_
    refine RO.opv (v' := .d (enc _)) (opv_load_pterm rfl) rfl ?_
    refine RO.opn (v' := .ref 2 0) (O' := [_, _, _]) (opv_alloc) rfl rfl ?_
    refine RO.op0n (O' := [_, _, _]) (opv_store_term rfl rfl rfl (Nat.le_of_ble_eq_true rfl)) rfl ?_
    refine RO.nil ?_
    refine Runs.has [(0, .d (encL _)), (3, .ref 0 0), (4, .ref 1 0), (5, .d (.int _ _)), (6, .d (.int _ _)), (7, .ref 2 0)] ⟨rfl, rfl, rfl, rfl, rfl, rfl, trivial⟩ ?_
    refine Runs.seq ?_
    refine Runs.seq ?_
    refine Runs.drawn (by kernel_rfl) [] [false, false, false, false, false, false, false, false, false, false, false, false, false, false, false] [false, false, false, false, false, false, false, false, false, false, false, false, false, false, false] (by decide +kernel) ?_
    refine RD.opv (v' := .ref 2 0) (opv_field_ref rfl rfl) rfl ?_
    refine RD.opv (v' := .d (.int _ _)) (opv_load_ref rfl rfl rfl) rfl ?_
    refine RD.opv (v' := .d (.bool _)) (opv_bin rfl rfl rfl) rfl ?_
    refine RD.opc (opv_move rfl) (fun h2 => ?_) (fun h2 => ?_)
    · try simp only [Z.a, Z.b, Z.c, Z.d, Z.e, Z.f, Z.g, Z.h, Z.i, Z.j, Z.k, Z.l, Z.m] at h2
      have hbad := h2
      refine RD.off rfl ?_
      refine RD.off rfl ?_
      refine RD.off rfl ?_
      refine RD.opv (v' := .d (.bool true)) (opv_pick rfl rfl) rfl ?_
      refine RD.opv (v' := .d (.bool true)) (opv_move rfl) rfl ?_
      refine RD.off rfl ?_
      refine RD.off rfl ?_
      refine RD.off rfl ?_
      refine RD.off rfl ?_
      refine RD.off rfl ?_
      refine RD.opv (v' := .d (.bool true)) (opv_pick rfl rfl) rfl ?_
      refine RD.nil ?_
      refine thenQ_normal ?_
      refine Runs.condT rfl ?_
      refine Runs.has [(3, .ref 0 0), (4, .ref 1 0), (5, .d (.int _ _)), (6, .d (.int _ _)), (7, .ref 2 0)] ⟨rfl, rfl, rfl, rfl, rfl, trivial⟩ ?_
      refine Runs.rseq ?_
      refine RO.opv (v' := .d (encCl _)) (opv_build_cl0 rfl rfl) rfl ?_
      refine RO.op0n (O' := [_, _, _]) (opv_store_cl rfl rfl rfl rfl) rfl ?_
      refine RO.opv (v' := .d (.int _ _)) (opv_assign rfl) rfl ?_
      refine RO.nil ?_
      refine Runs.ret ?_
      refine thenQ_ret ?_
      refine thenQ_ret ?_
      refine EndQ.ct (v := .d (encCl _)) (v' := .d (.int _ _)) (.inr rfl) rfl rfl rfl (by exact take_cl _) rfl 0 (by exact Nat.le_refl _) (by exact Nat.zero_le _) trivial trivial ⟨?_, rfl⟩
      rw [parse_range hc hk0 (by simp only [not_and]; intros; omega)]; try rfl
    · try simp only [Z.a, Z.b, Z.c, Z.d, Z.e, Z.f, Z.g, Z.h, Z.i, Z.j, Z.k, Z.l, Z.m] at h2
      have hi1 : t.kids[0].kind = 2 := by omega
      refine RD.opgv (v' := .ref 2 1) rfl (opv_field_ref rfl rfl) rfl ?_
      refine RD.opgv (v' := .d (.int _ _)) rfl (opv_load_ref rfl rfl rfl) rfl ?_
      refine RD.opgv (v' := .d (.bool _)) rfl (opv_bin rfl rfl rfl) rfl ?_
      refine RD.opv (v' := .d (.bool _)) (opv_pick rfl rfl) rfl ?_
      refine RD.opc (opv_move rfl) (fun h3 => ?_) (fun h3 => ?_)
      · try simp only [Z.a, Z.b, Z.c, Z.d, Z.e, Z.f, Z.g, Z.h, Z.i, Z.j, Z.k, Z.l, Z.m] at h3
        have hbad := h3
        refine RD.off rfl ?_
        refine RD.off rfl ?_
        refine RD.off rfl ?_
        refine RD.off rfl ?_
        refine RD.off rfl ?_
        refine RD.opv (v' := .d (.bool true)) (opv_pick rfl rfl) rfl ?_
        refine RD.nil ?_
        refine thenQ_normal ?_
        refine Runs.condT rfl ?_
        refine Runs.has [(3, .ref 0 0), (4, .ref 1 0), (5, .d (.int _ _)), (6, .d (.int _ _)), (7, .ref 2 0)] ⟨rfl, rfl, rfl, rfl, rfl, trivial⟩ ?_
        refine Runs.rseq ?_
        refine RO.opv (v' := .d (encCl _)) (opv_build_cl0 rfl rfl) rfl ?_
        refine RO.op0n (O' := [_, _, _]) (opv_store_cl rfl rfl rfl rfl) rfl ?_
        refine RO.opv (v' := .d (.int _ _)) (opv_assign rfl) rfl ?_
        refine RO.nil ?_
        refine Runs.ret ?_
        refine thenQ_ret ?_
        refine thenQ_ret ?_
        refine EndQ.ct (v := .d (encCl _)) (v' := .d (.int _ _)) (.inr rfl) rfl rfl rfl (by exact take_cl _) rfl 0 (by exact Nat.le_refl _) (by exact Nat.zero_le _) trivial trivial ⟨?_, rfl⟩
        rw [parse_range hc hk0 (by simp only [not_and]; intros; omega)]; try rfl
      · try simp only [Z.a, Z.b, Z.c, Z.d, Z.e, Z.f, Z.g, Z.h, Z.i, Z.j, Z.k, Z.l, Z.m] at h3
        have hi2 : (0 : Int) ≤ t.kids[0].num := by omega
        refine RD.opgv (v' := .ref 2 1) rfl (opv_field_ref rfl rfl) rfl ?_
        refine RD.opgv (v' := .d (.int _ _)) rfl (opv_load_ref rfl rfl rfl) rfl ?_
        refine RD.opgv (v' := .d (encL _)) rfl (opv_move rfl) rfl ?_
        refine RD.opgv (v' := .d (.int _ _)) rfl (opv_callF (llen_fn l) rfl rfl rfl trivial) rfl ?_
        refine RD.opgv (v' := .d (.bool _)) rfl (opv_bin rfl rfl rfl) rfl ?_
        refine RD.opc (opv_pick rfl rfl) (fun h4 => ?_) (fun h4 => ?_)
        · try simp only [Z.a, Z.b, Z.c, Z.d, Z.e, Z.f, Z.g, Z.h, Z.i, Z.j, Z.k, Z.l, Z.m] at h4
          have hbad := h4
          refine RD.nil ?_
          refine thenQ_normal ?_
          refine Runs.condT rfl ?_
          refine Runs.has [(3, .ref 0 0), (4, .ref 1 0), (5, .d (.int _ _)), (6, .d (.int _ _)), (7, .ref 2 0)] ⟨rfl, rfl, rfl, rfl, rfl, trivial⟩ ?_
          refine Runs.rseq ?_
          refine RO.opv (v' := .d (encCl _)) (opv_build_cl0 rfl rfl) rfl ?_
          refine RO.op0n (O' := [_, _, _]) (opv_store_cl rfl rfl rfl rfl) rfl ?_
          refine RO.opv (v' := .d (.int _ _)) (opv_assign rfl) rfl ?_
          refine RO.nil ?_
          refine Runs.ret ?_
          refine thenQ_ret ?_
          refine thenQ_ret ?_
          refine EndQ.ct (v := .d (encCl _)) (v' := .d (.int _ _)) (.inr rfl) rfl rfl rfl (by exact take_cl _) rfl 0 (by exact Nat.le_refl _) (by exact Nat.zero_le _) trivial trivial ⟨?_, rfl⟩
          rw [parse_range hc hk0 (by simp only [not_and]; intros; omega)]; try rfl
        · try simp only [Z.a, Z.b, Z.c, Z.d, Z.e, Z.f, Z.g, Z.h, Z.i, Z.j, Z.k, Z.l, Z.m] at h4
          have hi3 : t.kids[0].num < ((l.n : Nat) : Int) := by omega
          refine RD.nil ?_
          refine thenQ_normal ?_
          refine Runs.condF rfl ?_
          refine Runs.skip ?_
          refine thenQ_normal ?_
          refine Runs.has [(3, .ref 0 0), (4, .ref 1 0), (5, .d (.int _ _)), (6, .d (.int _ _)), (7, .ref 2 0)] ⟨rfl, rfl, rfl, rfl, rfl, trivial⟩ ?_
          refine Runs.drawn (by kernel_rfl) [] [false, false, false, false, false, false, false, false] [false, false, false, false, false, false, false, true] (by decide +kernel) ?_
          refine RD.opv (v' := .ref 2 1) (opv_field_ref rfl rfl) rfl ?_
          refine RD.opv (v' := .d (.int _ _)) (opv_load_ref rfl rfl rfl) rfl ?_
          refine RD.opv (v' := .ref 0 3) (opv_field_ref rfl rfl) rfl ?_
          refine RD.opv (v' := .d (.list (encs _))) (opv_load_ref rfl rfl rfl) rfl ?_
          refine RD.opv (v' := .d (.ptr _)) (opv_index_terms (i := 1) rfl rfl hk1) rfl ?_
          refine RD.opv (v' := .d (enc _)) (opv_load_pterm rfl) rfl ?_
          refine RD.opv (v' := .d (.int _ _)) (opv_assign rfl) rfl ?_
          refine RD.op0n (O' := [_, _, _]) (opv_store_term rfl rfl rfl (Nat.le_of_ble_eq_true rfl)) rfl trivial ?_
          refine RD.nil ?_
          refine thenQ_normal ?_
          refine Runs.has [(3, .ref 0 0), (4, .ref 1 0), (5, .d (.int _ _)), (6, .d (.int _ _))] ⟨rfl, rfl, rfl, rfl, trivial⟩ ?_
          refine Runs.seq ?_
          refine Runs.rseq ?_
          refine RO.opv (v' := .d (enc _)) (opv_load_term rfl rfl rfl) rfl ?_
          refine RO.opv (v' := .d (.bool _)) (opv_callF (two_fn _ _) rfl rfl rfl trivial) rfl ?_
          refine RO.opc (opv_not rfl rfl) (fun h5 => ?_) (fun h5 => ?_)
          · try simp only [Z.a, Z.b, Z.c, Z.d, Z.e, Z.f, Z.g, Z.h, Z.i, Z.j, Z.k, Z.l, Z.m] at h5
            have hno := h5
            refine RO.nil ?_
            refine Runs.condT rfl ?_
            refine Runs.has [(3, .ref 0 0), (4, .ref 1 0), (5, .d (.int _ _)), (6, .d (.int _ _))] ⟨rfl, rfl, rfl, rfl, trivial⟩ ?_
            refine Runs.drawn (by kernel_rfl) [] [false, false, false, false, false] [false, false, false, false, true] (by decide +kernel) ?_
            refine RD.opv (v' := .d (enc _)) (opv_load_term rfl rfl rfl) rfl ?_
            refine RD.opv (v' := .d (enc _)) (opv_callF (atom_fn ntrue) rfl rfl rfl trivial) rfl ?_
            refine RD.opv (v' := .d (.list (encs _))) (opv_bs_term2 rfl rfl ) rfl ?_
            refine RD.opv (v' := .d (enc _)) (opv_callF (make_fn neck [_, trueT] (Nat.le_of_ble_eq_true rfl)) rfl rfl rfl trivial) rfl ?_
            refine RD.op0n (O' := [_, _, _]) (opv_store_term rfl rfl rfl (Nat.le_of_ble_eq_true rfl)) rfl trivial ?_
            refine RD.nil ?_
            refine thenQ_normal ?_
            refine Runs.has [(3, .ref 0 0), (4, .ref 1 0), (5, .d (.int _ _)), (6, .d (.int _ _))] ⟨rfl, rfl, rfl, rfl, trivial⟩ ?_
            refine Runs.rseq ?_
            refine RO.opv (v' := .ref 0 3) (opv_field_ref rfl rfl) rfl ?_
            refine RO.opv (v' := .d (.list (encs _))) (opv_load_ref rfl rfl rfl) rfl ?_
            refine RO.opv (v' := .d (.ptr _)) (opv_index_terms (i := 0) rfl rfl (by first | exact Nat.zero_lt_succ _ | (have := (two_iff.1 hne).2.2; omega))) rfl ?_
            refine RO.opv (v' := .d (enc _)) (opv_load_pterm rfl) rfl ?_
            refine RO.opn (v' := .ref 3 0) (O' := [_, _, _, _]) (opv_alloc) rfl rfl ?_
            refine RO.op0n (O' := [_, _, _, _]) (opv_store_term rfl rfl rfl (Nat.le_of_ble_eq_true rfl)) rfl ?_
            refine RO.nil ?_
            refine Runs.has [(3, .ref 0 0), (4, .ref 1 0), (5, .d (.int _ _)), (6, .d (.int _ _)), (8, .ref 3 0)] ⟨rfl, rfl, rfl, rfl, rfl, trivial⟩ ?_
            refine Runs.seq ?_
            refine Runs.block ?_
            refine Runs.rseq ?_
            refine RO.opv (v' := .ref 3 0) (opv_field_ref rfl rfl) rfl ?_
            refine RO.opv (v' := .d (.int _ _)) (opv_load_ref rfl rfl rfl) rfl ?_
            refine RO.opv (v' := .d (.bool _)) (opv_bin rfl rfl rfl) rfl ?_
            refine RO.opc (opv_assign rfl) (fun h6 => ?_) (fun h6 => ?_)
            · try simp only [Z.a, Z.b, Z.c, Z.d, Z.e, Z.f, Z.g, Z.h, Z.i, Z.j, Z.k, Z.l, Z.m] at h6
              have hkd := h6
              refine RO.nil ?_
              refine Runs.condT rfl ?_
              refine Runs.has [(3, .ref 0 0), (4, .ref 1 0), (5, .d (.int _ _)), (6, .d (.int _ _))] ⟨rfl, rfl, rfl, rfl, trivial⟩ ?_
              refine Runs.rseq ?_
              refine RO.opv (v' := .d (encCl _)) (opv_build_cl0 rfl rfl) rfl ?_
              refine RO.op0n (O' := [_, _, _, _]) (opv_store_cl rfl rfl rfl rfl) rfl ?_
              refine RO.opv (v' := .d (.int _ _)) (opv_assign rfl) rfl ?_
              refine RO.nil ?_
              refine Runs.ret ?_
              refine blockQ_ret ?_
              refine thenQ_ret ?_
              refine EndQ.ct (v := .d (encCl _)) (v' := .d (.int _ _)) (.inr rfl) rfl rfl rfl (by exact take_cl _) rfl 0 (by exact Nat.le_refl _) (by exact Nat.zero_le _) trivial trivial ⟨?_, rfl⟩
              rw [parse_in hc hk0 hk1 hi1 hi2 hi3, asRule_no (fun e => absurd (hno.symm.trans e) (by decide)), p1_type (by first | exact Nat.zero_lt_succ _ | (have := (two_iff.1 hne).2.2; omega)) hkd]; try rfl
            · try simp only [Z.a, Z.b, Z.c, Z.d, Z.e, Z.f, Z.g, Z.h, Z.i, Z.j, Z.k, Z.l, Z.m] at h6
              have hkd := h6
              refine RO.nil ?_
              refine Runs.condF rfl ?_
              refine Runs.has [(3, .ref 0 0), (4, .ref 1 0), (5, .d (.int _ _)), (6, .d (.int _ _)), (8, .ref 3 0)] ⟨rfl, rfl, rfl, rfl, rfl, trivial⟩ ?_
              refine Runs.rseq ?_
              refine RO.opv (v' := .ref 3 2) (opv_field_ref rfl rfl) rfl ?_
              refine RO.opv (v' := .d (.str _)) (opv_load_ref rfl rfl rfl) rfl ?_
              refine RO.opv (v' := .ref 3 3) (opv_field_ref rfl rfl) rfl ?_
              refine RO.opv (v' := .d (.list (encs _))) (opv_load_ref rfl rfl rfl) rfl ?_
              refine RO.opv (v' := .d (.int _ _)) (opv_len_terms rfl) rfl ?_
              refine RO.opv (v' := .d (.bool _)) (opv_callF (known_fn _ _) rfl rfl rfl trivial) rfl ?_
              refine RO.opc (opv_move rfl) (fun h7 => ?_) (fun h7 => ?_)
              · try simp only [Z.a, Z.b, Z.c, Z.d, Z.e, Z.f, Z.g, Z.h, Z.i, Z.j, Z.k, Z.l, Z.m] at h7
                have hkn := h7
                refine RO.off rfl ?_
                refine RO.off rfl ?_
                refine RO.opv (v' := .d (.bool true)) (opv_pick rfl rfl) rfl ?_
                refine RO.opv (v' := .d (.bool true)) (opv_move rfl) rfl ?_
                refine RO.off rfl ?_
                refine RO.off rfl ?_
                refine RO.opv (v' := .d (.bool true)) (opv_pick rfl rfl) rfl ?_
                refine RO.opv (v' := .d (.bool true)) (opv_assign rfl) rfl ?_
                refine RO.nil ?_
                refine Runs.condT rfl ?_
                refine Runs.has [(3, .ref 0 0), (4, .ref 1 0), (5, .d (.int _ _)), (6, .d (.int _ _))] ⟨rfl, rfl, rfl, rfl, trivial⟩ ?_
                refine Runs.rseq ?_
                refine RO.opv (v' := .d (encCl _)) (opv_build_cl0 rfl rfl) rfl ?_
                refine RO.op0n (O' := [_, _, _, _]) (opv_store_cl rfl rfl rfl rfl) rfl ?_
                refine RO.opv (v' := .d (.int _ _)) (opv_assign rfl) rfl ?_
                refine RO.nil ?_
                refine Runs.ret ?_
                refine blockQ_ret ?_
                refine thenQ_ret ?_
                refine EndQ.ct (v := .d (encCl _)) (v' := .d (.int _ _)) (.inr rfl) rfl rfl rfl (by exact take_cl _) rfl 0 (by exact Nat.le_refl _) (by exact Nat.zero_le _) trivial trivial ⟨?_, rfl⟩
                rw [parse_in hc hk0 hk1 hi1 hi2 hi3, asRule_no (fun e => absurd (hno.symm.trans e) (by decide)), p1_there (by first | exact Nat.zero_lt_succ _ | (have := (two_iff.1 hne).2.2; omega)) hkd (or3a hkn)]; try rfl
              · try simp only [Z.a, Z.b, Z.c, Z.d, Z.e, Z.f, Z.g, Z.h, Z.i, Z.j, Z.k, Z.l, Z.m] at h7
                have hkn := h7
                refine RO.opgv (v' := .d (enc _)) rfl (opv_load_term rfl rfl rfl) rfl ?_
                refine RO.opgv (v' := .d (.bool _)) rfl (opv_callF (two_fn _ _) rfl rfl rfl trivial) rfl ?_
                refine RO.opv (v' := .d (.bool _)) (opv_pick rfl rfl) rfl ?_
                refine RO.opc (opv_move rfl) (fun h8 => ?_) (fun h8 => ?_)
                · try simp only [Z.a, Z.b, Z.c, Z.d, Z.e, Z.f, Z.g, Z.h, Z.i, Z.j, Z.k, Z.l, Z.m] at h8
                  have hkk := h8
                  refine RO.off rfl ?_
                  refine RO.off rfl ?_
                  refine RO.opv (v' := .d (.bool true)) (opv_pick rfl rfl) rfl ?_
                  refine RO.opv (v' := .d (.bool true)) (opv_assign rfl) rfl ?_
                  refine RO.nil ?_
                  refine Runs.condT rfl ?_
                  refine Runs.has [(3, .ref 0 0), (4, .ref 1 0), (5, .d (.int _ _)), (6, .d (.int _ _))] ⟨rfl, rfl, rfl, rfl, trivial⟩ ?_
                  refine Runs.rseq ?_
                  refine RO.opv (v' := .d (encCl _)) (opv_build_cl0 rfl rfl) rfl ?_
                  refine RO.op0n (O' := [_, _, _, _]) (opv_store_cl rfl rfl rfl rfl) rfl ?_
                  refine RO.opv (v' := .d (.int _ _)) (opv_assign rfl) rfl ?_
                  refine RO.nil ?_
                  refine Runs.ret ?_
                  refine blockQ_ret ?_
                  refine thenQ_ret ?_
                  refine EndQ.ct (v := .d (encCl _)) (v' := .d (.int _ _)) (.inr rfl) rfl rfl rfl (by exact take_cl _) rfl 0 (by exact Nat.le_refl _) (by exact Nat.zero_le _) trivial trivial ⟨?_, rfl⟩
                  rw [parse_in hc hk0 hk1 hi1 hi2 hi3, asRule_no (fun e => absurd (hno.symm.trans e) (by decide)), p1_there (by first | exact Nat.zero_lt_succ _ | (have := (two_iff.1 hne).2.2; omega)) hkd (or3b hkk)]; try rfl
                · try simp only [Z.a, Z.b, Z.c, Z.d, Z.e, Z.f, Z.g, Z.h, Z.i, Z.j, Z.k, Z.l, Z.m] at h8
                  have hkk := h8
                  refine RO.opgv (v' := .d (enc _)) rfl (opv_load_term rfl rfl rfl) rfl ?_
                  refine RO.opgv (v' := .d (.bool _)) rfl (opv_callF (two_fn _ _) rfl rfl rfl trivial) rfl ?_
                  refine RO.opv (v' := .d (.bool _)) (opv_pick rfl rfl) rfl ?_
                  refine RO.opc (opv_assign rfl) (fun h9 => ?_) (fun h9 => ?_)
                  · try simp only [Z.a, Z.b, Z.c, Z.d, Z.e, Z.f, Z.g, Z.h, Z.i, Z.j, Z.k, Z.l, Z.m] at h9
                    have hkc := h9
                    refine RO.nil ?_
                    refine Runs.condT rfl ?_
                    refine Runs.has [(3, .ref 0 0), (4, .ref 1 0), (5, .d (.int _ _)), (6, .d (.int _ _))] ⟨rfl, rfl, rfl, rfl, trivial⟩ ?_
                    refine Runs.rseq ?_
                    refine RO.opv (v' := .d (encCl _)) (opv_build_cl0 rfl rfl) rfl ?_
                    refine RO.op0n (O' := [_, _, _, _]) (opv_store_cl rfl rfl rfl rfl) rfl ?_
                    refine RO.opv (v' := .d (.int _ _)) (opv_assign rfl) rfl ?_
                    refine RO.nil ?_
                    refine Runs.ret ?_
                    refine blockQ_ret ?_
                    refine thenQ_ret ?_
                    refine EndQ.ct (v := .d (encCl _)) (v' := .d (.int _ _)) (.inr rfl) rfl rfl rfl (by exact take_cl _) rfl 0 (by exact Nat.le_refl _) (by exact Nat.zero_le _) trivial trivial ⟨?_, rfl⟩
                    rw [parse_in hc hk0 hk1 hi1 hi2 hi3, asRule_no (fun e => absurd (hno.symm.trans e) (by decide)), p1_there (by first | exact Nat.zero_lt_succ _ | (have := (two_iff.1 hne).2.2; omega)) hkd (or3c hkc)]; try rfl
                  · try simp only [Z.a, Z.b, Z.c, Z.d, Z.e, Z.f, Z.g, Z.h, Z.i, Z.j, Z.k, Z.l, Z.m] at h9
                    have hkc := h9
                    refine RO.nil ?_
                    refine Runs.condF rfl ?_
                    refine Runs.skip ?_
                    refine blockQ_normal ?_
                    refine thenQ_normal ?_
                    refine Runs.has [(3, .ref 0 0), (4, .ref 1 0), (5, .d (.int _ _)), (6, .d (.int _ _))] ⟨rfl, rfl, rfl, rfl, trivial⟩ ?_
                    refine Runs.rseq ?_
                    refine RO.opv (v' := .d (enc _)) (opv_load_term rfl rfl rfl) rfl ?_
                    refine RO.opv (opv_callF (norm_fn _ (by first | omega | (rw [rule_bulk]; omega))) rfl rfl rfl ⟨trivial, trivial, trivial⟩) rfl ?_
                    refine RO.opv (opv_move rfl) rfl ?_
                    refine RO.opv (v' := .d (enc _)) (opv_extract rfl rfl) rfl ?_
                    refine RO.opv (v' := .d (.int _ _)) (opv_extract rfl rfl) rfl ?_
                    refine RO.opn (v' := .ref 4 0) (O' := [_, _, _, _, _]) (opv_alloc) rfl rfl ?_
                    refine RO.op0n (O' := [_, _, _, _, _]) (opv_store_term rfl rfl rfl (Nat.le_of_ble_eq_true rfl)) rfl ?_
                    refine RO.opv (v' := .d (.int _ _)) (opv_assign rfl) rfl ?_
                    refine RO.nil ?_
                    refine Runs.has [(4, .ref 1 0), (5, .d (.int _ _)), (6, .d (.int _ _)), (9, .ref 4 0), (10, .d (.int _ _))] ⟨rfl, rfl, rfl, rfl, rfl, trivial⟩ ?_
                    refine Runs.seq ?_
                    refine Runs.drawn (by kernel_rfl) [] [false, false, false, false, false, false, false, false, false, false, false, false, false] [false, false, false, false, false, false, false, false, false, false, false, true, false] (by decide +kernel) ?_
                    refine RD.opv (v' := .d (.int _ _)) (opv_move rfl) rfl ?_
                    refine RD.opv (v' := .ref 4 3) (opv_field_ref rfl rfl) rfl ?_
                    refine RD.opv (v' := .d (.list (encs _))) (opv_load_ref rfl rfl rfl) rfl ?_
                    refine RD.opv (v' := .d (.ptr _)) (opv_index_terms (i := 0) rfl rfl (by rw [norm_len]; first | exact Nat.zero_lt_succ _ | (have := (two_iff.1 hne).2.2; omega))) rfl ?_
                    refine RD.opv (v' := .d (enc _)) (opv_load_pterm rfl) rfl ?_
                    refine RD.opv (v' := .ref 4 3) (opv_field_ref rfl rfl) rfl ?_
                    refine RD.opv (v' := .d (.list (encs _))) (opv_load_ref rfl rfl rfl) rfl ?_
                    refine RD.opv (v' := .d (.ptr _)) (opv_index_terms (i := 1) rfl rfl (by rw [norm_len]; first | exact Nat.succ_lt_succ (Nat.zero_lt_succ _) | (have := (two_iff.1 hne).2.2; omega))) rfl ?_
                    refine RD.opv (v' := .d (enc _)) (opv_load_pterm rfl) rfl ?_
                    refine RD.opv (v' := .d (.int _ _)) (opv_move rfl) rfl ?_
                    refine RD.opv (v' := .d (encCl _)) (opv_build_cl rfl rfl rfl rfl rfl) rfl ?_
                    refine RD.op0n (O' := [_, _, _, _, _]) (opv_store_cl rfl rfl rfl rfl) rfl trivial ?_
                    refine RD.opv (v' := .d (.int _ _)) (opv_assign rfl) rfl ?_
                    refine RD.nil ?_
                    refine thenQ_normal ?_
                    refine Runs.ret ?_
                    refine EndQ.ct (v := .d (encCl _)) (v' := .d (.int _ _)) (.inr rfl) rfl rfl rfl (by exact take_cl _) rfl 0 (by exact Nat.le_refl _) (by exact Nat.zero_le _) trivial trivial ⟨?_, rfl⟩
                    rw [parse_in hc hk0 hk1 hi1 hi2 hi3, asRule_no (fun e => absurd (hno.symm.trans e) (by decide)), p1_ok (by first | exact Nat.zero_lt_succ _ | (have := (two_iff.1 hne).2.2; omega)) hkd (or3n hkn hkk hkc) (by rw [norm_len]; first | exact Nat.zero_lt_succ _ | (have := (two_iff.1 hne).2.2; omega)) (by rw [norm_len]; first | exact Nat.succ_lt_succ (Nat.zero_lt_succ _) | (have := (two_iff.1 hne).2.2; omega))]; try rfl
          · try simp only [Z.a, Z.b, Z.c, Z.d, Z.e, Z.f, Z.g, Z.h, Z.i, Z.j, Z.k, Z.l, Z.m] at h5
            have hne := h5
            refine RO.nil ?_
            refine Runs.condF rfl ?_
            refine Runs.skip ?_
            refine thenQ_normal ?_
            refine Runs.has [(3, .ref 0 0), (4, .ref 1 0), (5, .d (.int _ _)), (6, .d (.int _ _))] ⟨rfl, rfl, rfl, rfl, trivial⟩ ?_
            refine Runs.rseq ?_
            refine RO.opv (v' := .ref 0 3) (opv_field_ref rfl rfl) rfl ?_
            refine RO.opv (v' := .d (.list (encs _))) (opv_load_ref rfl rfl rfl) rfl ?_
            refine RO.opv (v' := .d (.ptr _)) (opv_index_terms (i := 0) rfl rfl (by first | exact Nat.zero_lt_succ _ | (have := (two_iff.1 hne).2.2; omega))) rfl ?_
            refine RO.opv (v' := .d (enc _)) (opv_load_pterm rfl) rfl ?_
            refine RO.opn (v' := .ref 3 0) (O' := [_, _, _, _]) (opv_alloc) rfl rfl ?_
            refine RO.op0n (O' := [_, _, _, _]) (opv_store_term rfl rfl rfl (Nat.le_of_ble_eq_true rfl)) rfl ?_
            refine RO.nil ?_
            refine Runs.has [(3, .ref 0 0), (4, .ref 1 0), (5, .d (.int _ _)), (6, .d (.int _ _)), (8, .ref 3 0)] ⟨rfl, rfl, rfl, rfl, rfl, trivial⟩ ?_
            refine Runs.seq ?_
            refine Runs.block ?_
            refine Runs.rseq ?_
            refine RO.opv (v' := .ref 3 0) (opv_field_ref rfl rfl) rfl ?_
            refine RO.opv (v' := .d (.int _ _)) (opv_load_ref rfl rfl rfl) rfl ?_
            refine RO.opv (v' := .d (.bool _)) (opv_bin rfl rfl rfl) rfl ?_
            refine RO.opc (opv_assign rfl) (fun h10 => ?_) (fun h10 => ?_)
            · try simp only [Z.a, Z.b, Z.c, Z.d, Z.e, Z.f, Z.g, Z.h, Z.i, Z.j, Z.k, Z.l, Z.m] at h10
              have hkd := h10
              refine RO.nil ?_
              refine Runs.condT rfl ?_
              refine Runs.has [(3, .ref 0 0), (4, .ref 1 0), (5, .d (.int _ _)), (6, .d (.int _ _))] ⟨rfl, rfl, rfl, rfl, trivial⟩ ?_
              refine Runs.rseq ?_
              refine RO.opv (v' := .d (encCl _)) (opv_build_cl0 rfl rfl) rfl ?_
              refine RO.op0n (O' := [_, _, _, _]) (opv_store_cl rfl rfl rfl rfl) rfl ?_
              refine RO.opv (v' := .d (.int _ _)) (opv_assign rfl) rfl ?_
              refine RO.nil ?_
              refine Runs.ret ?_
              refine blockQ_ret ?_
              refine thenQ_ret ?_
              refine EndQ.ct (v := .d (encCl _)) (v' := .d (.int _ _)) (.inr rfl) rfl rfl rfl (by exact take_cl _) rfl 0 (by exact Nat.le_refl _) (by exact Nat.zero_le _) trivial trivial ⟨?_, rfl⟩
              rw [parse_in hc hk0 hk1 hi1 hi2 hi3, asRule_yes hne, p1_type (by first | exact Nat.zero_lt_succ _ | (have := (two_iff.1 hne).2.2; omega)) hkd]; try rfl
            · try simp only [Z.a, Z.b, Z.c, Z.d, Z.e, Z.f, Z.g, Z.h, Z.i, Z.j, Z.k, Z.l, Z.m] at h10
              have hkd := h10
              refine RO.nil ?_
              refine Runs.condF rfl ?_
              refine Runs.has [(3, .ref 0 0), (4, .ref 1 0), (5, .d (.int _ _)), (6, .d (.int _ _)), (8, .ref 3 0)] ⟨rfl, rfl, rfl, rfl, rfl, trivial⟩ ?_
              refine Runs.rseq ?_
              refine RO.opv (v' := .ref 3 2) (opv_field_ref rfl rfl) rfl ?_
              refine RO.opv (v' := .d (.str _)) (opv_load_ref rfl rfl rfl) rfl ?_
              refine RO.opv (v' := .ref 3 3) (opv_field_ref rfl rfl) rfl ?_
              refine RO.opv (v' := .d (.list (encs _))) (opv_load_ref rfl rfl rfl) rfl ?_
              refine RO.opv (v' := .d (.int _ _)) (opv_len_terms rfl) rfl ?_
              refine RO.opv (v' := .d (.bool _)) (opv_callF (known_fn _ _) rfl rfl rfl trivial) rfl ?_
              refine RO.opc (opv_move rfl) (fun h11 => ?_) (fun h11 => ?_)
              · try simp only [Z.a, Z.b, Z.c, Z.d, Z.e, Z.f, Z.g, Z.h, Z.i, Z.j, Z.k, Z.l, Z.m] at h11
                have hkn := h11
                refine RO.off rfl ?_
                refine RO.off rfl ?_
                refine RO.opv (v' := .d (.bool true)) (opv_pick rfl rfl) rfl ?_
                refine RO.opv (v' := .d (.bool true)) (opv_move rfl) rfl ?_
                refine RO.off rfl ?_
                refine RO.off rfl ?_
                refine RO.opv (v' := .d (.bool true)) (opv_pick rfl rfl) rfl ?_
                refine RO.opv (v' := .d (.bool true)) (opv_assign rfl) rfl ?_
                refine RO.nil ?_
                refine Runs.condT rfl ?_
                refine Runs.has [(3, .ref 0 0), (4, .ref 1 0), (5, .d (.int _ _)), (6, .d (.int _ _))] ⟨rfl, rfl, rfl, rfl, trivial⟩ ?_
                refine Runs.rseq ?_
                refine RO.opv (v' := .d (encCl _)) (opv_build_cl0 rfl rfl) rfl ?_
                refine RO.op0n (O' := [_, _, _, _]) (opv_store_cl rfl rfl rfl rfl) rfl ?_
                refine RO.opv (v' := .d (.int _ _)) (opv_assign rfl) rfl ?_
                refine RO.nil ?_
                refine Runs.ret ?_
                refine blockQ_ret ?_
                refine thenQ_ret ?_
                refine EndQ.ct (v := .d (encCl _)) (v' := .d (.int _ _)) (.inr rfl) rfl rfl rfl (by exact take_cl _) rfl 0 (by exact Nat.le_refl _) (by exact Nat.zero_le _) trivial trivial ⟨?_, rfl⟩
                rw [parse_in hc hk0 hk1 hi1 hi2 hi3, asRule_yes hne, p1_there (by first | exact Nat.zero_lt_succ _ | (have := (two_iff.1 hne).2.2; omega)) hkd (or3a hkn)]; try rfl
              · try simp only [Z.a, Z.b, Z.c, Z.d, Z.e, Z.f, Z.g, Z.h, Z.i, Z.j, Z.k, Z.l, Z.m] at h11
                have hkn := h11
                refine RO.opgv (v' := .d (enc _)) rfl (opv_load_term rfl rfl rfl) rfl ?_
                refine RO.opgv (v' := .d (.bool _)) rfl (opv_callF (two_fn _ _) rfl rfl rfl trivial) rfl ?_
                refine RO.opv (v' := .d (.bool _)) (opv_pick rfl rfl) rfl ?_
                refine RO.opc (opv_move rfl) (fun h12 => ?_) (fun h12 => ?_)
                · try simp only [Z.a, Z.b, Z.c, Z.d, Z.e, Z.f, Z.g, Z.h, Z.i, Z.j, Z.k, Z.l, Z.m] at h12
                  have hkk := h12
                  refine RO.off rfl ?_
                  refine RO.off rfl ?_
                  refine RO.opv (v' := .d (.bool true)) (opv_pick rfl rfl) rfl ?_
                  refine RO.opv (v' := .d (.bool true)) (opv_assign rfl) rfl ?_
                  refine RO.nil ?_
                  refine Runs.condT rfl ?_
                  refine Runs.has [(3, .ref 0 0), (4, .ref 1 0), (5, .d (.int _ _)), (6, .d (.int _ _))] ⟨rfl, rfl, rfl, rfl, trivial⟩ ?_
                  refine Runs.rseq ?_
                  refine RO.opv (v' := .d (encCl _)) (opv_build_cl0 rfl rfl) rfl ?_
                  refine RO.op0n (O' := [_, _, _, _]) (opv_store_cl rfl rfl rfl rfl) rfl ?_
                  refine RO.opv (v' := .d (.int _ _)) (opv_assign rfl) rfl ?_
                  refine RO.nil ?_
                  refine Runs.ret ?_
                  refine blockQ_ret ?_
                  refine thenQ_ret ?_
                  refine EndQ.ct (v := .d (encCl _)) (v' := .d (.int _ _)) (.inr rfl) rfl rfl rfl (by exact take_cl _) rfl 0 (by exact Nat.le_refl _) (by exact Nat.zero_le _) trivial trivial ⟨?_, rfl⟩
                  rw [parse_in hc hk0 hk1 hi1 hi2 hi3, asRule_yes hne, p1_there (by first | exact Nat.zero_lt_succ _ | (have := (two_iff.1 hne).2.2; omega)) hkd (or3b hkk)]; try rfl
                · try simp only [Z.a, Z.b, Z.c, Z.d, Z.e, Z.f, Z.g, Z.h, Z.i, Z.j, Z.k, Z.l, Z.m] at h12
                  have hkk := h12
                  refine RO.opgv (v' := .d (enc _)) rfl (opv_load_term rfl rfl rfl) rfl ?_
                  refine RO.opgv (v' := .d (.bool _)) rfl (opv_callF (two_fn _ _) rfl rfl rfl trivial) rfl ?_
                  refine RO.opv (v' := .d (.bool _)) (opv_pick rfl rfl) rfl ?_
                  refine RO.opc (opv_assign rfl) (fun h13 => ?_) (fun h13 => ?_)
                  · try simp only [Z.a, Z.b, Z.c, Z.d, Z.e, Z.f, Z.g, Z.h, Z.i, Z.j, Z.k, Z.l, Z.m] at h13
                    have hkc := h13
                    refine RO.nil ?_
                    refine Runs.condT rfl ?_
                    refine Runs.has [(3, .ref 0 0), (4, .ref 1 0), (5, .d (.int _ _)), (6, .d (.int _ _))] ⟨rfl, rfl, rfl, rfl, trivial⟩ ?_
                    refine Runs.rseq ?_
                    refine RO.opv (v' := .d (encCl _)) (opv_build_cl0 rfl rfl) rfl ?_
                    refine RO.op0n (O' := [_, _, _, _]) (opv_store_cl rfl rfl rfl rfl) rfl ?_
                    refine RO.opv (v' := .d (.int _ _)) (opv_assign rfl) rfl ?_
                    refine RO.nil ?_
                    refine Runs.ret ?_
                    refine blockQ_ret ?_
                    refine thenQ_ret ?_
                    refine EndQ.ct (v := .d (encCl _)) (v' := .d (.int _ _)) (.inr rfl) rfl rfl rfl (by exact take_cl _) rfl 0 (by exact Nat.le_refl _) (by exact Nat.zero_le _) trivial trivial ⟨?_, rfl⟩
                    rw [parse_in hc hk0 hk1 hi1 hi2 hi3, asRule_yes hne, p1_there (by first | exact Nat.zero_lt_succ _ | (have := (two_iff.1 hne).2.2; omega)) hkd (or3c hkc)]; try rfl
                  · try simp only [Z.a, Z.b, Z.c, Z.d, Z.e, Z.f, Z.g, Z.h, Z.i, Z.j, Z.k, Z.l, Z.m] at h13
                    have hkc := h13
                    refine RO.nil ?_
                    refine Runs.condF rfl ?_
                    refine Runs.skip ?_
                    refine blockQ_normal ?_
                    refine thenQ_normal ?_
                    refine Runs.has [(3, .ref 0 0), (4, .ref 1 0), (5, .d (.int _ _)), (6, .d (.int _ _))] ⟨rfl, rfl, rfl, rfl, trivial⟩ ?_
                    refine Runs.rseq ?_
                    refine RO.opv (v' := .d (enc _)) (opv_load_term rfl rfl rfl) rfl ?_
                    refine RO.opv (opv_callF (norm_fn _ (by first | omega | (rw [rule_bulk]; omega))) rfl rfl rfl ⟨trivial, trivial, trivial⟩) rfl ?_
                    refine RO.opv (opv_move rfl) rfl ?_
                    refine RO.opv (v' := .d (enc _)) (opv_extract rfl rfl) rfl ?_
                    refine RO.opv (v' := .d (.int _ _)) (opv_extract rfl rfl) rfl ?_
                    refine RO.opn (v' := .ref 4 0) (O' := [_, _, _, _, _]) (opv_alloc) rfl rfl ?_
                    refine RO.op0n (O' := [_, _, _, _, _]) (opv_store_term rfl rfl rfl (Nat.le_of_ble_eq_true rfl)) rfl ?_
                    refine RO.opv (v' := .d (.int _ _)) (opv_assign rfl) rfl ?_
                    refine RO.nil ?_
                    refine Runs.has [(4, .ref 1 0), (5, .d (.int _ _)), (6, .d (.int _ _)), (9, .ref 4 0), (10, .d (.int _ _))] ⟨rfl, rfl, rfl, rfl, rfl, trivial⟩ ?_
                    refine Runs.seq ?_
                    refine Runs.drawn (by kernel_rfl) [] [false, false, false, false, false, false, false, false, false, false, false, false, false] [false, false, false, false, false, false, false, false, false, false, false, true, false] (by decide +kernel) ?_
                    refine RD.opv (v' := .d (.int _ _)) (opv_move rfl) rfl ?_
                    refine RD.opv (v' := .ref 4 3) (opv_field_ref rfl rfl) rfl ?_
                    refine RD.opv (v' := .d (.list (encs _))) (opv_load_ref rfl rfl rfl) rfl ?_
                    refine RD.opv (v' := .d (.ptr _)) (opv_index_terms (i := 0) rfl rfl (by rw [norm_len]; first | exact Nat.zero_lt_succ _ | (have := (two_iff.1 hne).2.2; omega))) rfl ?_
                    refine RD.opv (v' := .d (enc _)) (opv_load_pterm rfl) rfl ?_
                    refine RD.opv (v' := .ref 4 3) (opv_field_ref rfl rfl) rfl ?_
                    refine RD.opv (v' := .d (.list (encs _))) (opv_load_ref rfl rfl rfl) rfl ?_
                    refine RD.opv (v' := .d (.ptr _)) (opv_index_terms (i := 1) rfl rfl (by rw [norm_len]; first | exact Nat.succ_lt_succ (Nat.zero_lt_succ _) | (have := (two_iff.1 hne).2.2; omega))) rfl ?_
                    refine RD.opv (v' := .d (enc _)) (opv_load_pterm rfl) rfl ?_
                    refine RD.opv (v' := .d (.int _ _)) (opv_move rfl) rfl ?_
                    refine RD.opv (v' := .d (encCl _)) (opv_build_cl rfl rfl rfl rfl rfl) rfl ?_
                    refine RD.op0n (O' := [_, _, _, _, _]) (opv_store_cl rfl rfl rfl rfl) rfl trivial ?_
                    refine RD.opv (v' := .d (.int _ _)) (opv_assign rfl) rfl ?_
                    refine RD.nil ?_
                    refine thenQ_normal ?_
                    refine Runs.ret ?_
                    refine EndQ.ct (v := .d (encCl _)) (v' := .d (.int _ _)) (.inr rfl) rfl rfl rfl (by exact take_cl _) rfl 0 (by exact Nat.le_refl _) (by exact Nat.zero_le _) trivial trivial ⟨?_, rfl⟩
                    rw [parse_in hc hk0 hk1 hi1 hi2 hi3, asRule_yes hne, p1_ok (by first | exact Nat.zero_lt_succ _ | (have := (two_iff.1 hne).2.2; omega)) hkd (or3n hkn hkk hkc) (by rw [norm_len]; first | exact Nat.zero_lt_succ _ | (have := (two_iff.1 hne).2.2; omega)) (by rw [norm_len]; first | exact Nat.succ_lt_succ (Nat.zero_lt_succ _) | (have := (two_iff.1 hne).2.2; omega))]; try rfl
  · try simp only [Z.a, Z.b, Z.c, Z.d, Z.e, Z.f, Z.g, Z.h, Z.i, Z.j, Z.k, Z.l, Z.m] at h1
    have hc : t.two ncol = false := h1
    refine RO.nil ?_
    refine Runs.condF rfl ?_
    refine Runs.skip ?_
    refine thenQ_normal ?_
    refine Runs.has [(3, .ref 0 0), (4, .ref 1 0), (5, .d (.int _ _)), (6, .d (.int _ _))] ⟨rfl, rfl, rfl, rfl, trivial⟩ ?_
    refine Runs.seq ?_
    refine Runs.rseq ?_
    refine RO.opv (v' := .d (enc _)) (opv_load_term rfl rfl rfl) rfl ?_
    refine RO.opv (v' := .d (.bool _)) (opv_callF (two_fn _ _) rfl rfl rfl trivial) rfl ?_
    refine RO.opc (opv_not rfl rfl) (fun h14 => ?_) (fun h14 => ?_)
    · try simp only [Z.a, Z.b, Z.c, Z.d, Z.e, Z.f, Z.g, Z.h, Z.i, Z.j, Z.k, Z.l, Z.m] at h14
      have hno := h14
      refine RO.nil ?_
      refine Runs.condT rfl ?_
      refine Runs.has [(3, .ref 0 0), (4, .ref 1 0), (5, .d (.int _ _)), (6, .d (.int _ _))] ⟨rfl, rfl, rfl, rfl, trivial⟩ ?_
      refine Runs.drawn (by kernel_rfl) [] [false, false, false, false, false] [false, false, false, false, true] (by decide +kernel) ?_
      refine RD.opv (v' := .d (enc _)) (opv_load_term rfl rfl rfl) rfl ?_
      refine RD.opv (v' := .d (enc _)) (opv_callF (atom_fn ntrue) rfl rfl rfl trivial) rfl ?_
      refine RD.opv (v' := .d (.list (encs _))) (opv_bs_term2 rfl rfl ) rfl ?_
      refine RD.opv (v' := .d (enc _)) (opv_callF (make_fn neck [_, trueT] (Nat.le_of_ble_eq_true rfl)) rfl rfl rfl trivial) rfl ?_
      refine RD.op0n (O' := [_, _]) (opv_store_term rfl rfl rfl (Nat.le_of_ble_eq_true rfl)) rfl trivial ?_
      refine RD.nil ?_
      refine thenQ_normal ?_
      refine Runs.has [(3, .ref 0 0), (4, .ref 1 0), (5, .d (.int _ _)), (6, .d (.int _ _))] ⟨rfl, rfl, rfl, rfl, trivial⟩ ?_
      refine Runs.rseq ?_
      refine RO.opv (v' := .ref 0 3) (opv_field_ref rfl rfl) rfl ?_
      refine RO.opv (v' := .d (.list (encs _))) (opv_load_ref rfl rfl rfl) rfl ?_
      refine RO.opv (v' := .d (.ptr _)) (opv_index_terms (i := 0) rfl rfl (by first | exact Nat.zero_lt_succ _ | (have := (two_iff.1 hne).2.2; omega))) rfl ?_
      refine RO.opv (v' := .d (enc _)) (opv_load_pterm rfl) rfl ?_
      refine RO.opn (v' := .ref 2 0) (O' := [_, _, _]) (opv_alloc) rfl rfl ?_
      refine RO.op0n (O' := [_, _, _]) (opv_store_term rfl rfl rfl (Nat.le_of_ble_eq_true rfl)) rfl ?_
      refine RO.nil ?_
      refine Runs.has [(3, .ref 0 0), (4, .ref 1 0), (5, .d (.int _ _)), (6, .d (.int _ _)), (8, .ref 2 0)] ⟨rfl, rfl, rfl, rfl, rfl, trivial⟩ ?_
      refine Runs.seq ?_
      refine Runs.block ?_
      refine Runs.rseq ?_
      refine RO.opv (v' := .ref 2 0) (opv_field_ref rfl rfl) rfl ?_
      refine RO.opv (v' := .d (.int _ _)) (opv_load_ref rfl rfl rfl) rfl ?_
      refine RO.opv (v' := .d (.bool _)) (opv_bin rfl rfl rfl) rfl ?_
      refine RO.opc (opv_assign rfl) (fun h15 => ?_) (fun h15 => ?_)
      · try simp only [Z.a, Z.b, Z.c, Z.d, Z.e, Z.f, Z.g, Z.h, Z.i, Z.j, Z.k, Z.l, Z.m] at h15
        have hkd := h15
        refine RO.nil ?_
        refine Runs.condT rfl ?_
        refine Runs.has [(3, .ref 0 0), (4, .ref 1 0), (5, .d (.int _ _)), (6, .d (.int _ _))] ⟨rfl, rfl, rfl, rfl, trivial⟩ ?_
        refine Runs.rseq ?_
        refine RO.opv (v' := .d (encCl _)) (opv_build_cl0 rfl rfl) rfl ?_
        refine RO.op0n (O' := [_, _, _]) (opv_store_cl rfl rfl rfl rfl) rfl ?_
        refine RO.opv (v' := .d (.int _ _)) (opv_assign rfl) rfl ?_
        refine RO.nil ?_
        refine Runs.ret ?_
        refine blockQ_ret ?_
        refine thenQ_ret ?_
        refine EndQ.ct (v := .d (encCl _)) (v' := .d (.int _ _)) (.inr rfl) rfl rfl rfl (by exact take_cl _) rfl 0 (by exact Nat.le_refl _) (by exact Nat.zero_le _) trivial trivial ⟨?_, rfl⟩
        rw [parse_out hc, asRule_no (fun e => absurd (hno.symm.trans e) (by decide)), p1_type (by first | exact Nat.zero_lt_succ _ | (have := (two_iff.1 hne).2.2; omega)) hkd]; try rfl
      · try simp only [Z.a, Z.b, Z.c, Z.d, Z.e, Z.f, Z.g, Z.h, Z.i, Z.j, Z.k, Z.l, Z.m] at h15
        have hkd := h15
        refine RO.nil ?_
        refine Runs.condF rfl ?_
        refine Runs.has [(3, .ref 0 0), (4, .ref 1 0), (5, .d (.int _ _)), (6, .d (.int _ _)), (8, .ref 2 0)] ⟨rfl, rfl, rfl, rfl, rfl, trivial⟩ ?_
        refine Runs.rseq ?_
        refine RO.opv (v' := .ref 2 2) (opv_field_ref rfl rfl) rfl ?_
        refine RO.opv (v' := .d (.str _)) (opv_load_ref rfl rfl rfl) rfl ?_
        refine RO.opv (v' := .ref 2 3) (opv_field_ref rfl rfl) rfl ?_
        refine RO.opv (v' := .d (.list (encs _))) (opv_load_ref rfl rfl rfl) rfl ?_
        refine RO.opv (v' := .d (.int _ _)) (opv_len_terms rfl) rfl ?_
        refine RO.opv (v' := .d (.bool _)) (opv_callF (known_fn _ _) rfl rfl rfl trivial) rfl ?_
        refine RO.opc (opv_move rfl) (fun h16 => ?_) (fun h16 => ?_)
        · try simp only [Z.a, Z.b, Z.c, Z.d, Z.e, Z.f, Z.g, Z.h, Z.i, Z.j, Z.k, Z.l, Z.m] at h16
          have hkn := h16
          refine RO.off rfl ?_
          refine RO.off rfl ?_
          refine RO.opv (v' := .d (.bool true)) (opv_pick rfl rfl) rfl ?_
          refine RO.opv (v' := .d (.bool true)) (opv_move rfl) rfl ?_
          refine RO.off rfl ?_
          refine RO.off rfl ?_
          refine RO.opv (v' := .d (.bool true)) (opv_pick rfl rfl) rfl ?_
          refine RO.opv (v' := .d (.bool true)) (opv_assign rfl) rfl ?_
          refine RO.nil ?_
          refine Runs.condT rfl ?_
          refine Runs.has [(3, .ref 0 0), (4, .ref 1 0), (5, .d (.int _ _)), (6, .d (.int _ _))] ⟨rfl, rfl, rfl, rfl, trivial⟩ ?_
          refine Runs.rseq ?_
          refine RO.opv (v' := .d (encCl _)) (opv_build_cl0 rfl rfl) rfl ?_
          refine RO.op0n (O' := [_, _, _]) (opv_store_cl rfl rfl rfl rfl) rfl ?_
          refine RO.opv (v' := .d (.int _ _)) (opv_assign rfl) rfl ?_
          refine RO.nil ?_
          refine Runs.ret ?_
          refine blockQ_ret ?_
          refine thenQ_ret ?_
          refine EndQ.ct (v := .d (encCl _)) (v' := .d (.int _ _)) (.inr rfl) rfl rfl rfl (by exact take_cl _) rfl 0 (by exact Nat.le_refl _) (by exact Nat.zero_le _) trivial trivial ⟨?_, rfl⟩
          rw [parse_out hc, asRule_no (fun e => absurd (hno.symm.trans e) (by decide)), p1_there (by first | exact Nat.zero_lt_succ _ | (have := (two_iff.1 hne).2.2; omega)) hkd (or3a hkn)]; try rfl
        · try simp only [Z.a, Z.b, Z.c, Z.d, Z.e, Z.f, Z.g, Z.h, Z.i, Z.j, Z.k, Z.l, Z.m] at h16
          have hkn := h16
          refine RO.opgv (v' := .d (enc _)) rfl (opv_load_term rfl rfl rfl) rfl ?_
          refine RO.opgv (v' := .d (.bool _)) rfl (opv_callF (two_fn _ _) rfl rfl rfl trivial) rfl ?_
          refine RO.opv (v' := .d (.bool _)) (opv_pick rfl rfl) rfl ?_
          refine RO.opc (opv_move rfl) (fun h17 => ?_) (fun h17 => ?_)
          · try simp only [Z.a, Z.b, Z.c, Z.d, Z.e, Z.f, Z.g, Z.h, Z.i, Z.j, Z.k, Z.l, Z.m] at h17
            have hkk := h17
            refine RO.off rfl ?_
            refine RO.off rfl ?_
            refine RO.opv (v' := .d (.bool true)) (opv_pick rfl rfl) rfl ?_
            refine RO.opv (v' := .d (.bool true)) (opv_assign rfl) rfl ?_
            refine RO.nil ?_
            refine Runs.condT rfl ?_
            refine Runs.has [(3, .ref 0 0), (4, .ref 1 0), (5, .d (.int _ _)), (6, .d (.int _ _))] ⟨rfl, rfl, rfl, rfl, trivial⟩ ?_
            refine Runs.rseq ?_
            refine RO.opv (v' := .d (encCl _)) (opv_build_cl0 rfl rfl) rfl ?_
            refine RO.op0n (O' := [_, _, _]) (opv_store_cl rfl rfl rfl rfl) rfl ?_
            refine RO.opv (v' := .d (.int _ _)) (opv_assign rfl) rfl ?_
            refine RO.nil ?_
            refine Runs.ret ?_
            refine blockQ_ret ?_
            refine thenQ_ret ?_
            refine EndQ.ct (v := .d (encCl _)) (v' := .d (.int _ _)) (.inr rfl) rfl rfl rfl (by exact take_cl _) rfl 0 (by exact Nat.le_refl _) (by exact Nat.zero_le _) trivial trivial ⟨?_, rfl⟩
            rw [parse_out hc, asRule_no (fun e => absurd (hno.symm.trans e) (by decide)), p1_there (by first | exact Nat.zero_lt_succ _ | (have := (two_iff.1 hne).2.2; omega)) hkd (or3b hkk)]; try rfl
          · try simp only [Z.a, Z.b, Z.c, Z.d, Z.e, Z.f, Z.g, Z.h, Z.i, Z.j, Z.k, Z.l, Z.m] at h17
            have hkk := h17
            refine RO.opgv (v' := .d (enc _)) rfl (opv_load_term rfl rfl rfl) rfl ?_
            refine RO.opgv (v' := .d (.bool _)) rfl (opv_callF (two_fn _ _) rfl rfl rfl trivial) rfl ?_
            refine RO.opv (v' := .d (.bool _)) (opv_pick rfl rfl) rfl ?_
            refine RO.opc (opv_assign rfl) (fun h18 => ?_) (fun h18 => ?_)
            · try simp only [Z.a, Z.b, Z.c, Z.d, Z.e, Z.f, Z.g, Z.h, Z.i, Z.j, Z.k, Z.l, Z.m] at h18
              have hkc := h18
              refine RO.nil ?_
              refine Runs.condT rfl ?_
              refine Runs.has [(3, .ref 0 0), (4, .ref 1 0), (5, .d (.int _ _)), (6, .d (.int _ _))] ⟨rfl, rfl, rfl, rfl, trivial⟩ ?_
              refine Runs.rseq ?_
              refine RO.opv (v' := .d (encCl _)) (opv_build_cl0 rfl rfl) rfl ?_
              refine RO.op0n (O' := [_, _, _]) (opv_store_cl rfl rfl rfl rfl) rfl ?_
              refine RO.opv (v' := .d (.int _ _)) (opv_assign rfl) rfl ?_
              refine RO.nil ?_
              refine Runs.ret ?_
              refine blockQ_ret ?_
              refine thenQ_ret ?_
              refine EndQ.ct (v := .d (encCl _)) (v' := .d (.int _ _)) (.inr rfl) rfl rfl rfl (by exact take_cl _) rfl 0 (by exact Nat.le_refl _) (by exact Nat.zero_le _) trivial trivial ⟨?_, rfl⟩
              rw [parse_out hc, asRule_no (fun e => absurd (hno.symm.trans e) (by decide)), p1_there (by first | exact Nat.zero_lt_succ _ | (have := (two_iff.1 hne).2.2; omega)) hkd (or3c hkc)]; try rfl
            · try simp only [Z.a, Z.b, Z.c, Z.d, Z.e, Z.f, Z.g, Z.h, Z.i, Z.j, Z.k, Z.l, Z.m] at h18
              have hkc := h18
              refine RO.nil ?_
              refine Runs.condF rfl ?_
              refine Runs.skip ?_
              refine blockQ_normal ?_
              refine thenQ_normal ?_
              refine Runs.has [(3, .ref 0 0), (4, .ref 1 0), (5, .d (.int _ _)), (6, .d (.int _ _))] ⟨rfl, rfl, rfl, rfl, trivial⟩ ?_
              refine Runs.rseq ?_
              refine RO.opv (v' := .d (enc _)) (opv_load_term rfl rfl rfl) rfl ?_
              refine RO.opv (opv_callF (norm_fn _ (by first | omega | (rw [rule_bulk]; omega))) rfl rfl rfl ⟨trivial, trivial, trivial⟩) rfl ?_
              refine RO.opv (opv_move rfl) rfl ?_
              refine RO.opv (v' := .d (enc _)) (opv_extract rfl rfl) rfl ?_
              refine RO.opv (v' := .d (.int _ _)) (opv_extract rfl rfl) rfl ?_
              refine RO.opn (v' := .ref 3 0) (O' := [_, _, _, _]) (opv_alloc) rfl rfl ?_
              refine RO.op0n (O' := [_, _, _, _]) (opv_store_term rfl rfl rfl (Nat.le_of_ble_eq_true rfl)) rfl ?_
              refine RO.opv (v' := .d (.int _ _)) (opv_assign rfl) rfl ?_
              refine RO.nil ?_
              refine Runs.has [(4, .ref 1 0), (5, .d (.int _ _)), (6, .d (.int _ _)), (9, .ref 3 0), (10, .d (.int _ _))] ⟨rfl, rfl, rfl, rfl, rfl, trivial⟩ ?_
              refine Runs.seq ?_
              refine Runs.drawn (by kernel_rfl) [] [false, false, false, false, false, false, false, false, false, false, false, false, false] [false, false, false, false, false, false, false, false, false, false, false, true, false] (by decide +kernel) ?_
              refine RD.opv (v' := .d (.int _ _)) (opv_move rfl) rfl ?_
              refine RD.opv (v' := .ref 3 3) (opv_field_ref rfl rfl) rfl ?_
              refine RD.opv (v' := .d (.list (encs _))) (opv_load_ref rfl rfl rfl) rfl ?_
              refine RD.opv (v' := .d (.ptr _)) (opv_index_terms (i := 0) rfl rfl (by rw [norm_len]; first | exact Nat.zero_lt_succ _ | (have := (two_iff.1 hne).2.2; omega))) rfl ?_
              refine RD.opv (v' := .d (enc _)) (opv_load_pterm rfl) rfl ?_
              refine RD.opv (v' := .ref 3 3) (opv_field_ref rfl rfl) rfl ?_
              refine RD.opv (v' := .d (.list (encs _))) (opv_load_ref rfl rfl rfl) rfl ?_
              refine RD.opv (v' := .d (.ptr _)) (opv_index_terms (i := 1) rfl rfl (by rw [norm_len]; first | exact Nat.succ_lt_succ (Nat.zero_lt_succ _) | (have := (two_iff.1 hne).2.2; omega))) rfl ?_
              refine RD.opv (v' := .d (enc _)) (opv_load_pterm rfl) rfl ?_
              refine RD.opv (v' := .d (.int _ _)) (opv_move rfl) rfl ?_
              refine RD.opv (v' := .d (encCl _)) (opv_build_cl rfl rfl rfl rfl rfl) rfl ?_
              refine RD.op0n (O' := [_, _, _, _]) (opv_store_cl rfl rfl rfl rfl) rfl trivial ?_
              refine RD.opv (v' := .d (.int _ _)) (opv_assign rfl) rfl ?_
              refine RD.nil ?_
              refine thenQ_normal ?_
              refine Runs.ret ?_
              refine EndQ.ct (v := .d (encCl _)) (v' := .d (.int _ _)) (.inr rfl) rfl rfl rfl (by exact take_cl _) rfl 0 (by exact Nat.le_refl _) (by exact Nat.zero_le _) trivial trivial ⟨?_, rfl⟩
              rw [parse_out hc, asRule_no (fun e => absurd (hno.symm.trans e) (by decide)), p1_ok (by first | exact Nat.zero_lt_succ _ | (have := (two_iff.1 hne).2.2; omega)) hkd (or3n hkn hkk hkc) (by rw [norm_len]; first | exact Nat.zero_lt_succ _ | (have := (two_iff.1 hne).2.2; omega)) (by rw [norm_len]; first | exact Nat.succ_lt_succ (Nat.zero_lt_succ _) | (have := (two_iff.1 hne).2.2; omega))]; try rfl
    · try simp only [Z.a, Z.b, Z.c, Z.d, Z.e, Z.f, Z.g, Z.h, Z.i, Z.j, Z.k, Z.l, Z.m] at h14
      have hne := h14
      refine RO.nil ?_
      refine Runs.condF rfl ?_
      refine Runs.skip ?_
      refine thenQ_normal ?_
      refine Runs.has [(3, .ref 0 0), (4, .ref 1 0), (5, .d (.int _ _)), (6, .d (.int _ _))] ⟨rfl, rfl, rfl, rfl, trivial⟩ ?_
      refine Runs.rseq ?_
      refine RO.opv (v' := .ref 0 3) (opv_field_ref rfl rfl) rfl ?_
      refine RO.opv (v' := .d (.list (encs _))) (opv_load_ref rfl rfl rfl) rfl ?_
      refine RO.opv (v' := .d (.ptr _)) (opv_index_terms (i := 0) rfl rfl (by first | exact Nat.zero_lt_succ _ | (have := (two_iff.1 hne).2.2; omega))) rfl ?_
      refine RO.opv (v' := .d (enc _)) (opv_load_pterm rfl) rfl ?_
      refine RO.opn (v' := .ref 2 0) (O' := [_, _, _]) (opv_alloc) rfl rfl ?_
      refine RO.op0n (O' := [_, _, _]) (opv_store_term rfl rfl rfl (Nat.le_of_ble_eq_true rfl)) rfl ?_
      refine RO.nil ?_
      refine Runs.has [(3, .ref 0 0), (4, .ref 1 0), (5, .d (.int _ _)), (6, .d (.int _ _)), (8, .ref 2 0)] ⟨rfl, rfl, rfl, rfl, rfl, trivial⟩ ?_
      refine Runs.seq ?_
      refine Runs.block ?_
      refine Runs.rseq ?_
      refine RO.opv (v' := .ref 2 0) (opv_field_ref rfl rfl) rfl ?_
      refine RO.opv (v' := .d (.int _ _)) (opv_load_ref rfl rfl rfl) rfl ?_
      refine RO.opv (v' := .d (.bool _)) (opv_bin rfl rfl rfl) rfl ?_
      refine RO.opc (opv_assign rfl) (fun h19 => ?_) (fun h19 => ?_)
      · try simp only [Z.a, Z.b, Z.c, Z.d, Z.e, Z.f, Z.g, Z.h, Z.i, Z.j, Z.k, Z.l, Z.m] at h19
        have hkd := h19
        refine RO.nil ?_
        refine Runs.condT rfl ?_
        refine Runs.has [(3, .ref 0 0), (4, .ref 1 0), (5, .d (.int _ _)), (6, .d (.int _ _))] ⟨rfl, rfl, rfl, rfl, trivial⟩ ?_
        refine Runs.rseq ?_
        refine RO.opv (v' := .d (encCl _)) (opv_build_cl0 rfl rfl) rfl ?_
        refine RO.op0n (O' := [_, _, _]) (opv_store_cl rfl rfl rfl rfl) rfl ?_
        refine RO.opv (v' := .d (.int _ _)) (opv_assign rfl) rfl ?_
        refine RO.nil ?_
        refine Runs.ret ?_
        refine blockQ_ret ?_
        refine thenQ_ret ?_
        refine EndQ.ct (v := .d (encCl _)) (v' := .d (.int _ _)) (.inr rfl) rfl rfl rfl (by exact take_cl _) rfl 0 (by exact Nat.le_refl _) (by exact Nat.zero_le _) trivial trivial ⟨?_, rfl⟩
        rw [parse_out hc, asRule_yes hne, p1_type (by first | exact Nat.zero_lt_succ _ | (have := (two_iff.1 hne).2.2; omega)) hkd]; try rfl
      · try simp only [Z.a, Z.b, Z.c, Z.d, Z.e, Z.f, Z.g, Z.h, Z.i, Z.j, Z.k, Z.l, Z.m] at h19
        have hkd := h19
        refine RO.nil ?_
        refine Runs.condF rfl ?_
        refine Runs.has [(3, .ref 0 0), (4, .ref 1 0), (5, .d (.int _ _)), (6, .d (.int _ _)), (8, .ref 2 0)] ⟨rfl, rfl, rfl, rfl, rfl, trivial⟩ ?_
        refine Runs.rseq ?_
        refine RO.opv (v' := .ref 2 2) (opv_field_ref rfl rfl) rfl ?_
        refine RO.opv (v' := .d (.str _)) (opv_load_ref rfl rfl rfl) rfl ?_
        refine RO.opv (v' := .ref 2 3) (opv_field_ref rfl rfl) rfl ?_
        refine RO.opv (v' := .d (.list (encs _))) (opv_load_ref rfl rfl rfl) rfl ?_
        refine RO.opv (v' := .d (.int _ _)) (opv_len_terms rfl) rfl ?_
        refine RO.opv (v' := .d (.bool _)) (opv_callF (known_fn _ _) rfl rfl rfl trivial) rfl ?_
        refine RO.opc (opv_move rfl) (fun h20 => ?_) (fun h20 => ?_)
        · try simp only [Z.a, Z.b, Z.c, Z.d, Z.e, Z.f, Z.g, Z.h, Z.i, Z.j, Z.k, Z.l, Z.m] at h20
          have hkn := h20
          refine RO.off rfl ?_
          refine RO.off rfl ?_
          refine RO.opv (v' := .d (.bool true)) (opv_pick rfl rfl) rfl ?_
          refine RO.opv (v' := .d (.bool true)) (opv_move rfl) rfl ?_
          refine RO.off rfl ?_
          refine RO.off rfl ?_
          refine RO.opv (v' := .d (.bool true)) (opv_pick rfl rfl) rfl ?_
          refine RO.opv (v' := .d (.bool true)) (opv_assign rfl) rfl ?_
          refine RO.nil ?_
          refine Runs.condT rfl ?_
          refine Runs.has [(3, .ref 0 0), (4, .ref 1 0), (5, .d (.int _ _)), (6, .d (.int _ _))] ⟨rfl, rfl, rfl, rfl, trivial⟩ ?_
          refine Runs.rseq ?_
          refine RO.opv (v' := .d (encCl _)) (opv_build_cl0 rfl rfl) rfl ?_
          refine RO.op0n (O' := [_, _, _]) (opv_store_cl rfl rfl rfl rfl) rfl ?_
          refine RO.opv (v' := .d (.int _ _)) (opv_assign rfl) rfl ?_
          refine RO.nil ?_
          refine Runs.ret ?_
          refine blockQ_ret ?_
          refine thenQ_ret ?_
          refine EndQ.ct (v := .d (encCl _)) (v' := .d (.int _ _)) (.inr rfl) rfl rfl rfl (by exact take_cl _) rfl 0 (by exact Nat.le_refl _) (by exact Nat.zero_le _) trivial trivial ⟨?_, rfl⟩
          rw [parse_out hc, asRule_yes hne, p1_there (by first | exact Nat.zero_lt_succ _ | (have := (two_iff.1 hne).2.2; omega)) hkd (or3a hkn)]; try rfl
        · try simp only [Z.a, Z.b, Z.c, Z.d, Z.e, Z.f, Z.g, Z.h, Z.i, Z.j, Z.k, Z.l, Z.m] at h20
          have hkn := h20
          refine RO.opgv (v' := .d (enc _)) rfl (opv_load_term rfl rfl rfl) rfl ?_
          refine RO.opgv (v' := .d (.bool _)) rfl (opv_callF (two_fn _ _) rfl rfl rfl trivial) rfl ?_
          refine RO.opv (v' := .d (.bool _)) (opv_pick rfl rfl) rfl ?_
          refine RO.opc (opv_move rfl) (fun h21 => ?_) (fun h21 => ?_)
          · try simp only [Z.a, Z.b, Z.c, Z.d, Z.e, Z.f, Z.g, Z.h, Z.i, Z.j, Z.k, Z.l, Z.m] at h21
            have hkk := h21
            refine RO.off rfl ?_
            refine RO.off rfl ?_
            refine RO.opv (v' := .d (.bool true)) (opv_pick rfl rfl) rfl ?_
            refine RO.opv (v' := .d (.bool true)) (opv_assign rfl) rfl ?_
            refine RO.nil ?_
            refine Runs.condT rfl ?_
            refine Runs.has [(3, .ref 0 0), (4, .ref 1 0), (5, .d (.int _ _)), (6, .d (.int _ _))] ⟨rfl, rfl, rfl, rfl, trivial⟩ ?_
            refine Runs.rseq ?_
            refine RO.opv (v' := .d (encCl _)) (opv_build_cl0 rfl rfl) rfl ?_
            refine RO.op0n (O' := [_, _, _]) (opv_store_cl rfl rfl rfl rfl) rfl ?_
            refine RO.opv (v' := .d (.int _ _)) (opv_assign rfl) rfl ?_
            refine RO.nil ?_
            refine Runs.ret ?_
            refine blockQ_ret ?_
            refine thenQ_ret ?_
            refine EndQ.ct (v := .d (encCl _)) (v' := .d (.int _ _)) (.inr rfl) rfl rfl rfl (by exact take_cl _) rfl 0 (by exact Nat.le_refl _) (by exact Nat.zero_le _) trivial trivial ⟨?_, rfl⟩
            rw [parse_out hc, asRule_yes hne, p1_there (by first | exact Nat.zero_lt_succ _ | (have := (two_iff.1 hne).2.2; omega)) hkd (or3b hkk)]; try rfl
          · try simp only [Z.a, Z.b, Z.c, Z.d, Z.e, Z.f, Z.g, Z.h, Z.i, Z.j, Z.k, Z.l, Z.m] at h21
            have hkk := h21
            refine RO.opgv (v' := .d (enc _)) rfl (opv_load_term rfl rfl rfl) rfl ?_
            refine RO.opgv (v' := .d (.bool _)) rfl (opv_callF (two_fn _ _) rfl rfl rfl trivial) rfl ?_
            refine RO.opv (v' := .d (.bool _)) (opv_pick rfl rfl) rfl ?_
            refine RO.opc (opv_assign rfl) (fun h22 => ?_) (fun h22 => ?_)
            · try simp only [Z.a, Z.b, Z.c, Z.d, Z.e, Z.f, Z.g, Z.h, Z.i, Z.j, Z.k, Z.l, Z.m] at h22
              have hkc := h22
              refine RO.nil ?_
              refine Runs.condT rfl ?_
              refine Runs.has [(3, .ref 0 0), (4, .ref 1 0), (5, .d (.int _ _)), (6, .d (.int _ _))] ⟨rfl, rfl, rfl, rfl, trivial⟩ ?_
              refine Runs.rseq ?_
              refine RO.opv (v' := .d (encCl _)) (opv_build_cl0 rfl rfl) rfl ?_
              refine RO.op0n (O' := [_, _, _]) (opv_store_cl rfl rfl rfl rfl) rfl ?_
              refine RO.opv (v' := .d (.int _ _)) (opv_assign rfl) rfl ?_
              refine RO.nil ?_
              refine Runs.ret ?_
              refine blockQ_ret ?_
              refine thenQ_ret ?_
              refine EndQ.ct (v := .d (encCl _)) (v' := .d (.int _ _)) (.inr rfl) rfl rfl rfl (by exact take_cl _) rfl 0 (by exact Nat.le_refl _) (by exact Nat.zero_le _) trivial trivial ⟨?_, rfl⟩
              rw [parse_out hc, asRule_yes hne, p1_there (by first | exact Nat.zero_lt_succ _ | (have := (two_iff.1 hne).2.2; omega)) hkd (or3c hkc)]; try rfl
            · try simp only [Z.a, Z.b, Z.c, Z.d, Z.e, Z.f, Z.g, Z.h, Z.i, Z.j, Z.k, Z.l, Z.m] at h22
              have hkc := h22
              refine RO.nil ?_
              refine Runs.condF rfl ?_
              refine Runs.skip ?_
              refine blockQ_normal ?_
              refine thenQ_normal ?_
              refine Runs.has [(3, .ref 0 0), (4, .ref 1 0), (5, .d (.int _ _)), (6, .d (.int _ _))] ⟨rfl, rfl, rfl, rfl, trivial⟩ ?_
              refine Runs.rseq ?_
              refine RO.opv (v' := .d (enc _)) (opv_load_term rfl rfl rfl) rfl ?_
              refine RO.opv (opv_callF (norm_fn _ (by first | omega | (rw [rule_bulk]; omega))) rfl rfl rfl ⟨trivial, trivial, trivial⟩) rfl ?_
              refine RO.opv (opv_move rfl) rfl ?_
              refine RO.opv (v' := .d (enc _)) (opv_extract rfl rfl) rfl ?_
              refine RO.opv (v' := .d (.int _ _)) (opv_extract rfl rfl) rfl ?_
              refine RO.opn (v' := .ref 3 0) (O' := [_, _, _, _]) (opv_alloc) rfl rfl ?_
              refine RO.op0n (O' := [_, _, _, _]) (opv_store_term rfl rfl rfl (Nat.le_of_ble_eq_true rfl)) rfl ?_
              refine RO.opv (v' := .d (.int _ _)) (opv_assign rfl) rfl ?_
              refine RO.nil ?_
              refine Runs.has [(4, .ref 1 0), (5, .d (.int _ _)), (6, .d (.int _ _)), (9, .ref 3 0), (10, .d (.int _ _))] ⟨rfl, rfl, rfl, rfl, rfl, trivial⟩ ?_
              refine Runs.seq ?_
              refine Runs.drawn (by kernel_rfl) [] [false, false, false, false, false, false, false, false, false, false, false, false, false] [false, false, false, false, false, false, false, false, false, false, false, true, false] (by decide +kernel) ?_
              refine RD.opv (v' := .d (.int _ _)) (opv_move rfl) rfl ?_
              refine RD.opv (v' := .ref 3 3) (opv_field_ref rfl rfl) rfl ?_
              refine RD.opv (v' := .d (.list (encs _))) (opv_load_ref rfl rfl rfl) rfl ?_
              refine RD.opv (v' := .d (.ptr _)) (opv_index_terms (i := 0) rfl rfl (by rw [norm_len]; first | exact Nat.zero_lt_succ _ | (have := (two_iff.1 hne).2.2; omega))) rfl ?_
              refine RD.opv (v' := .d (enc _)) (opv_load_pterm rfl) rfl ?_
              refine RD.opv (v' := .ref 3 3) (opv_field_ref rfl rfl) rfl ?_
              refine RD.opv (v' := .d (.list (encs _))) (opv_load_ref rfl rfl rfl) rfl ?_
              refine RD.opv (v' := .d (.ptr _)) (opv_index_terms (i := 1) rfl rfl (by rw [norm_len]; first | exact Nat.succ_lt_succ (Nat.zero_lt_succ _) | (have := (two_iff.1 hne).2.2; omega))) rfl ?_
              refine RD.opv (v' := .d (enc _)) (opv_load_pterm rfl) rfl ?_
              refine RD.opv (v' := .d (.int _ _)) (opv_move rfl) rfl ?_
              refine RD.opv (v' := .d (encCl _)) (opv_build_cl rfl rfl rfl rfl rfl) rfl ?_
              refine RD.op0n (O' := [_, _, _, _]) (opv_store_cl rfl rfl rfl rfl) rfl trivial ?_
              refine RD.opv (v' := .d (.int _ _)) (opv_assign rfl) rfl ?_
              refine RD.nil ?_
              refine thenQ_normal ?_
              refine Runs.ret ?_
              refine EndQ.ct (v := .d (encCl _)) (v' := .d (.int _ _)) (.inr rfl) rfl rfl rfl (by exact take_cl _) rfl 0 (by exact Nat.le_refl _) (by exact Nat.zero_le _) trivial trivial ⟨?_, rfl⟩
              rw [parse_out hc, asRule_yes hne, p1_ok (by first | exact Nat.zero_lt_succ _ | (have := (two_iff.1 hne).2.2; omega)) hkd (or3n hkn hkk hkc) (by rw [norm_len]; first | exact Nat.zero_lt_succ _ | (have := (two_iff.1 hne).2.2; omega)) (by rw [norm_len]; first | exact Nat.succ_lt_succ (Nat.zero_lt_succ _) | (have := (two_iff.1 hne).2.2; omega))]; try rfl
theorem dnew_fn (l : Lt) (hl : l.Ok) (ts : List Term) (hb : bulks ts ≤ 2 ^ 28) : Fn Try.prog 13 [.d (encL l), .d (.list (encs ts))] [] (.tup [.d (encOB l (newB l ts).1), .d (.int .i64 (newB l ts).2.1), .d (.int .i64 (newB l ts).2.2)]) [] := by
  have hL := bulks_len ts
  refine Does.run Try.func13 rfl Try.ntmps13 rfl fun K hK => ?_
  refine Runs.rseq ?_
  refine RO.opv (v' := .d .nilp) (opv_assign rfl) rfl ?_
  refine RO.opv (v' := .d (.int _ _)) (opv_assign rfl) rfl ?_
  refine RO.opv (v' := .d (.int _ _)) (opv_assign rfl) rfl ?_
  refine RO.nil ?_
  refine Runs.seq ?_
  refine Runs.rseq ?_
  refine RO.opv (v' := .d (.list (encs _))) (opv_move rfl) rfl ?_
  refine RO.opv (v' := .d (.int _ _)) (opv_len_terms rfl) rfl ?_
  refine RO.opc (opv_bin rfl rfl rfl) (fun h1 => ?_) (fun h1 => ?_)
  · try simp only [Z.a, Z.b, Z.c, Z.d, Z.e, Z.f, Z.g, Z.h, Z.i, Z.j, Z.k, Z.l, Z.m] at h1
    have hbig := h1
    refine RO.nil ?_
    refine Runs.condT rfl ?_
    refine Runs.has [(0, .d (encL _)), (1, .d (.list (encs _))), (4, .d .nilp), (5, .d (.int _ _)), (6, .d (.int _ _))] ⟨rfl, rfl, rfl, rfl, rfl, trivial⟩ ?_
    refine Runs.rseq ?_
    refine RO.opv (v' := .d .nilp) (opv_assign rfl) rfl ?_
    refine RO.opv (v' := .d (.int _ _)) (opv_assign rfl) rfl ?_
    refine RO.opv (v' := .d (.int _ _)) (opv_assign rfl) rfl ?_
    refine RO.nil ?_
    refine Runs.ret ?_
    refine thenQ_ret ?_
    refine EndQ.tmps3 (.inr rfl) rfl rfl rfl rfl 0 (by exact Nat.le_refl _) (by exact Nat.zero_le _) ⟨trivial, trivial, trivial, trivial⟩ ⟨?_, rfl⟩
    rw [newB_big (by omega)]; try rfl
  · try simp only [Z.a, Z.b, Z.c, Z.d, Z.e, Z.f, Z.g, Z.h, Z.i, Z.j, Z.k, Z.l, Z.m] at h1
    have hle := h1
    refine RO.nil ?_
    refine Runs.condF rfl ?_
    refine Runs.skip ?_
    refine thenQ_normal ?_
    refine Runs.has [(0, .d (encL _)), (1, .d (.list (encs _))), (4, .d .nilp), (5, .d (.int _ _)), (6, .d (.int _ _))] ⟨rfl, rfl, rfl, rfl, rfl, trivial⟩ ?_
    refine Runs.newbuf 76 10 ?_
    refine Runs.rseq ?_
    refine RO.opv (v' := .d (encL _)) (opv_move rfl) rfl ?_
    refine RO.opv (v' := .agg _) (opv_build_own 0 1 rfl rfl rfl) rfl ?_
    refine RO.opn (v' := .ref 1 0) (O' := [_, _]) (opv_box rfl rfl) rfl rfl ?_
    refine RO.opv (v' := .ref 1 0) (opv_assign rfl) rfl ?_
    refine RO.nil ?_
    refine Runs.has [(0, .d (encL _)), (1, .d (.list (encs _))), (4, .d .nilp), (5, .d (.int _ _)), (6, .d (.int _ _)), (7, .ref 1 0)] ⟨rfl, rfl, rfl, rfl, rfl, rfl, trivial⟩ ?_
    refine Runs.seq ?_
    refine Runs.rseq ?_
    refine RO.opv (v' := .d (.list (encs _))) (opv_move rfl) rfl ?_
    refine RO.opv (v' := .d (.int _ _)) (opv_len_terms rfl) rfl ?_
    refine RO.opv (v' := .d (.int _ _)) (opv_move rfl) rfl ?_
    refine RO.nil ?_
    refine Runs.block ?_
    refine Runs.loopC (X := Nat) (fun i => i ≤ ts.length ∧ ∀ t ∈ ts.take i, (parseL l t).2 = 0) (fun i => ts.length - i) [(0, .d (encL _)), (7, .ref 1 0), (18, .d (.list (encs _))), (19, .d (.int _ _))] (fun i => [(20, .d (.int .i64 (i : Nat)))]) [] (fun i => [.buf 76 10 (encCls (parsesT l (ts.take i))) i, .cells [.d (encL l), .own 0 i]]) (0) ⟨rfl, rfl, rfl, rfl, trivial⟩ ⟨rfl, trivial⟩ rfl ⟨Nat.zero_le _, fun t h => by simp at h⟩ fun i hi => ?_
    refine Runs.rseq ?_
    refine RO.opc (opv_bin rfl rfl rfl) (fun h2 => ?_) (fun h2 => ?_)
    · try simp only [Z.a, Z.b, Z.c, Z.d, Z.e, Z.f, Z.g, Z.h, Z.i, Z.j, Z.k, Z.l, Z.m] at h2
      have hk : i < ts.length := by omega
      have hbi := bulks_mem (List.getElem_mem hk)
      refine RO.nil ?_
      refine Runs.seq ?_
      refine Runs.condT rfl ?_
      refine Runs.skip ?_
      refine thenQ_normal ?_
      refine Runs.has [(0, .d (encL _)), (7, .ref 1 0), (18, .d (.list (encs _))), (19, .d (.int _ _)), (20, .d (.int _ _))] ⟨rfl, rfl, rfl, rfl, rfl, trivial⟩ ?_
      refine Runs.seq ?_
      refine Runs.block ?_
      refine Runs.rseq ?_
      refine RO.opv (v' := .d (.int _ _)) (opv_move rfl) rfl ?_
      refine RO.opv (v' := .d (.ptr _)) (opv_index_terms rfl rfl hk) rfl ?_
      refine RO.opv (v' := .d (enc _)) (opv_load_pterm rfl) rfl ?_
      refine RO.opn (v' := .ref 2 0) (O' := [_, _, _]) (opv_alloc) rfl rfl ?_
      refine RO.opv (v' := .d (.int _ _)) (opv_assign rfl) rfl ?_
      refine RO.op0n (O' := [_, _, _]) (opv_store_term rfl rfl rfl (Nat.le_of_ble_eq_true rfl)) rfl ?_
      refine RO.nil ?_
      refine Runs.has [(0, .d (encL _)), (7, .ref 1 0), (8, .d (.int _ _)), (9, .ref 2 0), (18, .d (.list (encs _))), (19, .d (.int _ _)), (20, .d (.int _ _))] ⟨rfl, rfl, rfl, rfl, rfl, rfl, rfl, trivial⟩ ?_
      refine Runs.rseq ?_
      refine RO.opv (v' := .d (encL _)) (opv_move rfl) rfl ?_
      refine RO.opv (v' := .d (enc _)) (opv_load_term rfl rfl rfl) rfl ?_
      refine RO.opv (opv_callF (parse_fn l hl ts[i] (by omega)) rfl rfl rfl ⟨trivial, trivial, trivial⟩) rfl ?_
      refine RO.opv (opv_move rfl) rfl ?_
      refine RO.opv (v' := .d (encCl _)) (opv_extract rfl rfl) rfl ?_
      refine RO.opv (v' := .d (.int _ _)) (opv_extract rfl rfl) rfl ?_
      refine RO.opn (v' := .ref 3 0) (O' := [_, _, _, _]) (opv_alloc) rfl rfl ?_
      refine RO.op0n (O' := [_, _, _, _]) (opv_store_cl rfl rfl rfl rfl) rfl ?_
      refine RO.opv (v' := .d (.int _ _)) (opv_assign rfl) rfl ?_
      refine RO.nil ?_
      refine Runs.has [(0, .d (encL _)), (7, .ref 1 0), (8, .d (.int _ _)), (10, .ref 3 0), (11, .d (.int _ _)), (18, .d (.list (encs _))), (19, .d (.int _ _)), (20, .d (.int _ _))] ⟨rfl, rfl, rfl, rfl, rfl, rfl, rfl, rfl, trivial⟩ ?_
      refine Runs.seq ?_
      refine Runs.rseq ?_
      refine RO.opv (v' := .d (.int _ _)) (opv_move rfl) rfl ?_
      refine RO.opc (opv_bin rfl rfl rfl) (fun h3 => ?_) (fun h3 => ?_)
      · try simp only [Z.a, Z.b, Z.c, Z.d, Z.e, Z.f, Z.g, Z.h, Z.i, Z.j, Z.k, Z.l, Z.m] at h3
        have he := h3
        refine RO.nil ?_
        refine Runs.condT rfl ?_
        refine Runs.has [(0, .d (encL _)), (7, .ref 1 0), (8, .d (.int _ _)), (10, .ref 3 0), (11, .d (.int _ _)), (18, .d (.list (encs _))), (19, .d (.int _ _)), (20, .d (.int _ _))] ⟨rfl, rfl, rfl, rfl, rfl, rfl, rfl, rfl, trivial⟩ ?_
        refine Runs.rseq ?_
        refine RO.opv (v' := .d (.int _ _)) (opv_move rfl) rfl ?_
        refine RO.opv (v' := .d (.int _ _)) (opv_move rfl) rfl ?_
        refine RO.opv (v' := .d .nilp) (opv_assign rfl) rfl ?_
        refine RO.opv (v' := .d (.int _ _)) (opv_assign rfl) rfl ?_
        refine RO.opv (v' := .d (.int _ _)) (opv_assign rfl) rfl ?_
        refine RO.nil ?_
        refine Runs.ret ?_
        refine thenQ_ret ?_
        refine blockQ_ret ?_
        refine thenQ_ret ?_
        refine thenQ_ret ?_
        refine blockQ_ret ?_
        refine thenQ_ret ?_
        refine EndQ.tmps3 (.inr rfl) rfl rfl rfl rfl 0 (by exact Nat.le_refl _) (by exact Nat.zero_le _) ⟨trivial, trivial, trivial, trivial⟩ ⟨?_, rfl⟩
        rw [newB_bad (by omega) hk hi.2 he]; try rfl
      · try simp only [Z.a, Z.b, Z.c, Z.d, Z.e, Z.f, Z.g, Z.h, Z.i, Z.j, Z.k, Z.l, Z.m] at h3
        have he := h3
        refine RO.nil ?_
        refine Runs.condF rfl ?_
        refine Runs.skip ?_
        refine thenQ_normal ?_
        refine Runs.has [(0, .d (encL _)), (7, .ref 1 0), (10, .ref 3 0), (18, .d (.list (encs _))), (19, .d (.int _ _)), (20, .d (.int _ _))] ⟨rfl, rfl, rfl, rfl, rfl, rfl, trivial⟩ ?_
        refine Runs.drawn (by kernel_rfl) [] [true, false, false, false, false, false, false, false, false, false, false] [false, false, false, false, false, false, false, true, false, false, true] (by decide +kernel) ?_
        refine RD.opa (v' := .ref 1 0) (fun O' hkeep => opv_move rfl) rfl ?_
        refine RD.opv (v' := .ref 1 0) (opv_move rfl) rfl ?_
        refine RD.opv (v' := .ref 1 0) (opv_nilCheck_ref rfl rfl) rfl ?_
        refine RD.opv (v' := .ref 1 1) (opv_field_ref rfl rfl) rfl ?_
        refine RD.opv (v' := .own 0 _) (opv_load_ref rfl rfl rfl) rfl ?_
        refine RD.opv (v' := .d (encCl _)) (opv_load_cl rfl rfl) rfl ?_
        refine RD.opv (v' := .d (.list (encCls _))) (opv_bs_cl rfl) rfl ?_
        refine RD.opn (v' := .own 0 _) (O' := [_, _, _, _]) (opv_append_cls rfl rfl rfl (by rw [parsesT_len]; simp; omega)) rfl rfl trivial ?_
        refine RD.opv (v' := .ref 1 0) (opv_nilCheck_ref rfl rfl) rfl ?_
        refine RD.opv (v' := .ref 1 1) (opv_field_ref rfl rfl) rfl ?_
        refine RD.op0n (O' := [_, _, _, _]) (opv_store_ref rfl rfl rfl rfl rfl (Nat.le_of_ble_eq_true rfl) rfl) rfl trivial ?_
        refine RD.nil ?_
        refine blockQ_normal ?_
        refine thenQ_normal ?_
        refine Runs.has [(0, .d (encL _)), (7, .ref 1 0), (18, .d (.list (encs _))), (19, .d (.int _ _)), (20, .d (.int _ _))] ⟨rfl, rfl, rfl, rfl, rfl, trivial⟩ ?_
        refine Runs.region ?_
        refine RO.opv (v' := .d (.int _ _)) (opv_bin rfl rfl rfl) rfl ?_
        refine RO.opv (v' := .d (.int _ _)) (opv_move rfl) rfl ?_
        refine RO.nil ?_
        refine thenQ_normal ?_
        refine ⟨i + 1, 2, (by rw [hK]; exact Nat.le_of_ble_eq_true rfl), ⟨rfl, rfl, rfl, rfl, trivial⟩, ⟨?_, trivial⟩, ?_, ?_, ?_⟩
        · refine int_eq ?_; rw [wrap64 (by omega) (by omega)]; omega
        · rw [parsesT_take hk]; try rfl
        · exact ⟨by omega, ok_snoc hk hi.2 he⟩
        · omega
    · try simp only [Z.a, Z.b, Z.c, Z.d, Z.e, Z.f, Z.g, Z.h, Z.i, Z.j, Z.k, Z.l, Z.m] at h2
      have hk : i = ts.length := by omega
      refine RO.nil ?_
      refine Runs.seq ?_
      refine Runs.condF rfl ?_
      refine Runs.exit ?_
      refine thenQ_exit ?_
      refine thenQ_exit ?_
      refine blockQ_here ?_
      refine thenQ_normal ?_
      refine Runs.has [(7, .ref 1 0)] ⟨rfl, trivial⟩ ?_
      refine Runs.shutC 1 1 rfl rfl rfl ?_
      refine Runs.freeze 7 rfl rfl rfl ?_
      refine Runs.rseq ?_
      refine RO.opv (v' := .d (.ptr _)) (opv_move rfl) rfl ?_
      refine RO.opv (v' := .d (.ptr _)) (opv_assign rfl) rfl ?_
      refine RO.opv (v' := .d (.int _ _)) (opv_assign rfl) rfl ?_
      refine RO.opv (v' := .d (.int _ _)) (opv_assign rfl) rfl ?_
      refine RO.nil ?_
      refine Runs.ret ?_
      refine EndQ.tmps3 (.inr rfl) rfl rfl rfl rfl 0 (by exact Nat.le_refl _) (by exact Nat.zero_le _) ⟨trivial, trivial, trivial, trivial⟩ ⟨?_, rfl⟩
      have hall := hi.2; rw [hk, List.take_length] at hall
      rw [newB_ok (by omega) hall, hk, List.take_length]; try rfl
theorem all_fn (l : Lt) (o : Option (List Cl)) (hc : (allB o).length ≤ 2 ^ 20) : Fn Try.prog 39 [.d (encOB l o)] [] (.d (.list (encCls (allB o)))) [] := by
  refine Does.run Try.func39 rfl Try.ntmps39 rfl fun K hK => ?_
  refine Runs.rseq ?_
  refine RO.opv (v' := .nil0) (opv_assign rfl) rfl ?_
  refine RO.nil ?_
  refine Runs.seq ?_
  refine Runs.rseq ?_
  refine RO.opv (v' := .d (encOB _ _)) (opv_move rfl) rfl ?_
  refine RO.opc (opv_eqnil_ob rfl rfl) (fun h1 => ?_) (fun h1 => ?_)
  · try simp only [Z.a, Z.b, Z.c, Z.d, Z.e, Z.f, Z.g, Z.h, Z.i, Z.j, Z.k, Z.l, Z.m] at h1
    have ho : o = none := Option.isNone_iff_eq_none.1 h1
    subst ho
    refine RO.nil ?_
    refine Runs.condT rfl ?_
    refine Runs.has [(0, .d (encOB _ _)), (2, .nil0)] ⟨rfl, rfl, trivial⟩ ?_
    refine Runs.rseq ?_
    refine RO.opv (v' := .nil0) (opv_assign rfl) rfl ?_
    refine RO.nil ?_
    refine Runs.nz 2 rfl ?_
    refine Runs.ret ?_
    refine thenQ_ret ?_
    refine EndQ.tmp (.inr rfl) rfl rfl 0 (by exact Nat.le_refl _) (by exact Nat.zero_le _) trivial ⟨?_, rfl⟩
    rfl
  · try simp only [Z.a, Z.b, Z.c, Z.d, Z.e, Z.f, Z.g, Z.h, Z.i, Z.j, Z.k, Z.l, Z.m] at h1
    obtain ⟨cs, rfl⟩ : ∃ cs, o = some cs := by cases o with | none => cases h1 | some cs => exact ⟨cs, rfl⟩
    refine RO.nil ?_
    refine Runs.condF rfl ?_
    refine Runs.skip ?_
    refine thenQ_normal ?_
    refine Runs.has [(0, .d (encOB _ _)), (2, .nil0)] ⟨rfl, rfl, trivial⟩ ?_
    refine Runs.rseq ?_
    refine RO.opv (v' := .nil0) (opv_buildSlice0 rfl) rfl ?_
    refine RO.opv (v' := .d (encOB _ _)) (opv_move rfl) rfl ?_
    refine RO.opv (v' := .d (.ptr _)) (opv_nilCheck_ptr rfl) rfl ?_
    refine RO.opv (v' := .d (.ptr _)) (opv_field_ptr rfl) rfl ?_
    refine RO.opv (v' := .d (.list (encCls _))) (opv_load_ptr rfl rfl) rfl ?_
    refine RO.opn (v' := .own 0 _) (O' := [_]) (opv_append_cls0 rfl rfl (Nat.le_trans hc (Nat.le_of_ble_eq_true rfl))) rfl rfl ?_
    refine RO.opv (v' := .own 0 _) (opv_assign rfl) rfl ?_
    refine RO.nil ?_
    refine Runs.shut 2 rfl rfl ?_
    refine Runs.ret ?_
    refine EndQ.tmp (.inr rfl) rfl rfl 0 (by exact Nat.le_refl _) (by exact Nat.zero_le _) trivial ⟨?_, rfl⟩
    rfl
theorem top_fn (l : Lt) (hl : l.Ok) (o : Option (List Cl)) (hc : (allB o).length ≤ 2 ^ 20) (hs : ∀ c ∈ allB o, c.small (2 ^ 30)) : Fn Try.prog 38 [.d (encOB l o)] [] (.d (.int .i64 (topO l o))) [] := by
  refine Does.run Try.func38 rfl Try.ntmps38 rfl fun K hK => ?_
  refine Runs.rseq ?_
  refine RO.opv (v' := .d (.int _ _)) (opv_assign rfl) rfl ?_
  refine RO.nil ?_
  refine Runs.seq ?_
  refine Runs.rseq ?_
  refine RO.opv (v' := .d (encOB _ _)) (opv_move rfl) rfl ?_
  refine RO.opc (opv_eqnil_ob rfl rfl) (fun h1 => ?_) (fun h1 => ?_)
  · try simp only [Z.a, Z.b, Z.c, Z.d, Z.e, Z.f, Z.g, Z.h, Z.i, Z.j, Z.k, Z.l, Z.m] at h1
    have ho : o = none := Option.isNone_iff_eq_none.1 h1
    subst ho
    refine RO.nil ?_
    refine Runs.condT rfl ?_
    refine Runs.has [(0, .d (encOB _ _)), (2, .d (.int _ _))] ⟨rfl, rfl, trivial⟩ ?_
    refine Runs.rseq ?_
    refine RO.opv (v' := .d (.int _ _)) (opv_assign rfl) rfl ?_
    refine RO.nil ?_
    refine Runs.ret ?_
    refine thenQ_ret ?_
    refine EndQ.tmp (.inr rfl) rfl rfl 0 (by exact Nat.le_refl _) (by exact Nat.zero_le _) trivial ⟨?_, rfl⟩
    rfl
  · try simp only [Z.a, Z.b, Z.c, Z.d, Z.e, Z.f, Z.g, Z.h, Z.i, Z.j, Z.k, Z.l, Z.m] at h1
    obtain ⟨cs, rfl⟩ : ∃ cs, o = some cs := by cases o with | none => cases h1 | some cs => exact ⟨cs, rfl⟩
    have hc' : cs.length ≤ 2 ^ 20 := hc
    refine RO.nil ?_
    refine Runs.condF rfl ?_
    refine Runs.skip ?_
    refine thenQ_normal ?_
    refine Runs.has [(0, .d (encOB _ _)), (2, .d (.int _ _))] ⟨rfl, rfl, trivial⟩ ?_
    refine Runs.rseq ?_
    refine RO.opv (v' := .d (encOB _ _)) (opv_move rfl) rfl ?_
    refine RO.opv (v' := .d (.ptr _)) (opv_nilCheck_ptr rfl) rfl ?_
    refine RO.opv (v' := .d (.ptr _)) (opv_field_ptr rfl) rfl ?_
    refine RO.opv (v' := .d (encL _)) (opv_load_ptr rfl rfl) rfl ?_
    refine RO.opv (v' := .d (.int _ _)) (opv_callF (lbot_fn l hl) rfl rfl rfl trivial) rfl ?_
    refine RO.opv (v' := .d (.int _ _)) (opv_assign rfl) rfl ?_
    refine RO.nil ?_
    refine Runs.has [(0, .d (encOB _ _)), (2, .d (.int _ _)), (3, .d (.int _ _))] ⟨rfl, rfl, rfl, trivial⟩ ?_
    refine Runs.seq ?_
    refine Runs.rseq ?_
    refine RO.opv (v' := .d (encOB _ _)) (opv_move rfl) rfl ?_
    refine RO.opv (v' := .d (.ptr _)) (opv_nilCheck_ptr rfl) rfl ?_
    refine RO.opv (v' := .d (.ptr _)) (opv_field_ptr rfl) rfl ?_
    refine RO.opv (v' := .d (.list (encCls _))) (opv_load_ptr rfl rfl) rfl ?_
    refine RO.opv (v' := .d (.int _ _)) (opv_len_cls rfl) rfl ?_
    refine RO.opv (v' := .d (.int _ _)) (opv_move rfl) rfl ?_
    refine RO.nil ?_
    refine Runs.block ?_
    refine Runs.loopC (X := Nat) (fun i => i ≤ cs.length) (fun i => cs.length - i) [(0, .d (encOB _ _)), (2, .d (.int _ _)), (16, .d (.list (encCls _))), (17, .d (.int _ _))] (fun i => [(3, .d (.int .i64 (topB l (cs.take i)))), (18, .d (.int .i64 (i : Nat)))]) [] (fun i => []) (0) ⟨rfl, rfl, rfl, rfl, trivial⟩ ⟨rfl, rfl, trivial⟩ rfl (by omega) fun i hi => ?_
    refine Runs.rseq ?_
    refine RO.opc (opv_bin rfl rfl rfl) (fun h2 => ?_) (fun h2 => ?_)
    · try simp only [Z.a, Z.b, Z.c, Z.d, Z.e, Z.f, Z.g, Z.h, Z.i, Z.j, Z.k, Z.l, Z.m] at h2
      have hk : i < cs.length := by omega
      refine RO.nil ?_
      refine Runs.seq ?_
      refine Runs.condT rfl ?_
      refine Runs.skip ?_
      refine thenQ_normal ?_
      refine Runs.has [(0, .d (encOB _ _)), (2, .d (.int _ _)), (3, .d (.int _ _)), (16, .d (.list (encCls _))), (17, .d (.int _ _)), (18, .d (.int _ _))] ⟨rfl, rfl, rfl, rfl, rfl, rfl, trivial⟩ ?_
      refine Runs.seq ?_
      refine Runs.block ?_
      refine Runs.rseq ?_
      refine RO.opv (v' := .d (.ptr _)) (opv_index_cls rfl rfl hk) rfl ?_
      refine RO.opv (v' := .d (encCl _)) (opv_load_pcl rfl) rfl ?_
      refine RO.opn (v' := .ref 0 0) (O' := [_]) (opv_alloc) rfl rfl ?_
      refine RO.op0n (O' := [_]) (opv_store_cl rfl rfl rfl rfl) rfl ?_
      refine RO.nil ?_
      refine Runs.has [(0, .d (encOB _ _)), (2, .d (.int _ _)), (3, .d (.int _ _)), (5, .ref 0 0), (16, .d (.list (encCls _))), (17, .d (.int _ _)), (18, .d (.int _ _))] ⟨rfl, rfl, rfl, rfl, rfl, rfl, rfl, trivial⟩ ?_
      refine Runs.drawn (by kernel_rfl) [] [false, false, false, false, false, false, false, false, false, false, false, false, false, false, false, false, false, false, false, false, false, false, false, false, false, false, false, false, false, false, false, false, false] [false, false, false, false, false, false, false, false, false, false, false, false, false, false, false, false, false, false, false, false, false, false, false, false, false, false, false, false, false, false, false, false, false] (by decide +kernel) ?_
      refine RD.opv (v' := .d (encOB _ _)) (opv_move rfl) rfl ?_
      refine RD.opv (v' := .d (.ptr _)) (opv_nilCheck_ptr rfl) rfl ?_
      refine RD.opv (v' := .d (.ptr _)) (opv_field_ptr rfl) rfl ?_
      refine RD.opv (v' := .d (encL _)) (opv_load_ptr rfl rfl) rfl ?_
      refine RD.opv (v' := .d (.int _ _)) (opv_move rfl) rfl ?_
      refine RD.opv (v' := .d (encOB _ _)) (opv_move rfl) rfl ?_
      refine RD.opv (v' := .d (.ptr _)) (opv_nilCheck_ptr rfl) rfl ?_
      refine RD.opv (v' := .d (.ptr _)) (opv_field_ptr rfl) rfl ?_
      refine RD.opv (v' := .d (encL _)) (opv_load_ptr rfl rfl) rfl ?_
      refine RD.opv (v' := .ref 0 0) (opv_field_ref rfl rfl) rfl ?_
      refine RD.opv (v' := .d (.int _ _)) (opv_load_ref rfl rfl rfl) rfl ?_
      refine RD.opv (v' := .d (encOB _ _)) (opv_move rfl) rfl ?_
      refine RD.opv (v' := .d (.ptr _)) (opv_nilCheck_ptr rfl) rfl ?_
      refine RD.opv (v' := .d (.ptr _)) (opv_field_ptr rfl) rfl ?_
      refine RD.opv (v' := .d (encL _)) (opv_load_ptr rfl rfl) rfl ?_
      refine RD.opv (v' := .d (encOB _ _)) (opv_move rfl) rfl ?_
      refine RD.opv (v' := .d (.ptr _)) (opv_nilCheck_ptr rfl) rfl ?_
      refine RD.opv (v' := .d (.ptr _)) (opv_field_ptr rfl) rfl ?_
      refine RD.opv (v' := .d (encL _)) (opv_load_ptr rfl rfl) rfl ?_
      refine RD.opv (v' := .ref 0 1) (opv_field_ref rfl rfl) rfl ?_
      refine RD.opv (v' := .d (enc _)) (opv_load_term rfl rfl rfl) rfl ?_
      refine RD.opv (v' := .d (.int _ _)) (opv_callF (sjoin_fn l hl cs[i].head (mem_all hs hk).1) rfl rfl rfl trivial) rfl ?_
      refine RD.opv (v' := .d (encOB _ _)) (opv_move rfl) rfl ?_
      refine RD.opv (v' := .d (.ptr _)) (opv_nilCheck_ptr rfl) rfl ?_
      refine RD.opv (v' := .d (.ptr _)) (opv_field_ptr rfl) rfl ?_
      refine RD.opv (v' := .d (encL _)) (opv_load_ptr rfl rfl) rfl ?_
      refine RD.opv (v' := .ref 0 5) (opv_field_ref rfl rfl) rfl ?_
      refine RD.opv (v' := .d (enc _)) (opv_load_term rfl rfl rfl) rfl ?_
      refine RD.opv (v' := .d (.int _ _)) (opv_callF (sjoin_fn l hl cs[i].body (mem_all hs hk).2) rfl rfl rfl trivial) rfl ?_
      refine RD.opv (v' := .d (.int _ _)) (opv_callF (ljoin_fn l hl _ _) rfl rfl rfl trivial) rfl ?_
      refine RD.opv (v' := .d (.int _ _)) (opv_callF (ljoin_fn l hl _ _) rfl rfl rfl trivial) rfl ?_
      refine RD.opv (v' := .d (.int _ _)) (opv_callF (ljoin_fn l hl _ _) rfl rfl rfl trivial) rfl ?_
      refine RD.opv (v' := .d (.int _ _)) (opv_assign rfl) rfl ?_
      refine RD.nil ?_
      refine blockQ_normal ?_
      refine thenQ_normal ?_
      refine Runs.has [(0, .d (encOB _ _)), (2, .d (.int _ _)), (3, .d (.int _ _)), (16, .d (.list (encCls _))), (17, .d (.int _ _)), (18, .d (.int _ _))] ⟨rfl, rfl, rfl, rfl, rfl, rfl, trivial⟩ ?_
      refine Runs.region ?_
      refine RO.opv (v' := .d (.int _ _)) (opv_bin rfl rfl rfl) rfl ?_
      refine RO.opv (v' := .d (.int _ _)) (opv_move rfl) rfl ?_
      refine RO.nil ?_
      refine thenQ_normal ?_
      refine ⟨i + 1, 0, (by rw [hK]; exact Nat.le_of_ble_eq_true rfl), ⟨rfl, rfl, rfl, rfl, trivial⟩, ⟨?_, ?_, trivial⟩, rfl, ?_, ?_⟩
      · refine int_eq ?_; rw [topB_take hk]; try rfl
      · refine int_eq ?_; rw [wrap64 (by omega) (by omega)]; omega
      · omega
      · omega
    · try simp only [Z.a, Z.b, Z.c, Z.d, Z.e, Z.f, Z.g, Z.h, Z.i, Z.j, Z.k, Z.l, Z.m] at h2
      have hk : i = cs.length := by omega
      refine RO.nil ?_
      refine Runs.seq ?_
      refine Runs.condF rfl ?_
      refine Runs.exit ?_
      refine thenQ_exit ?_
      refine thenQ_exit ?_
      refine blockQ_here ?_
      refine thenQ_normal ?_
      refine Runs.has [(2, .d (.int _ _)), (3, .d (.int _ _))] ⟨rfl, rfl, trivial⟩ ?_
      refine Runs.rseq ?_
      refine RO.opv (v' := .d (.int _ _)) (opv_move rfl) rfl ?_
      refine RO.opv (v' := .d (.int _ _)) (opv_assign rfl) rfl ?_
      refine RO.nil ?_
      refine Runs.ret ?_
      refine EndQ.tmp (.inr rfl) rfl rfl 0 (by exact Nat.le_refl _) (by exact Nat.zero_le _) trivial ⟨?_, rfl⟩
      refine int_eq ?_; rw [hk, List.take_length]; try rfl
end Go.Proofs.Ytohncglpjiplaaa.AM
