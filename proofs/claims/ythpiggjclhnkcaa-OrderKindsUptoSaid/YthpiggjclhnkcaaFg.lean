import Derived.Test.YthpiggjclhnkcaaTn
import Derived.Test.YthpiggjclhnkcaaF1
namespace Go.Proofs.Ythpiggjclhnkcaa.AM
open Go
set_option linter.unusedVariables false
set_option linter.unusedSimpArgs false
theorem is_fn (l : Lt) (hl : l.Ok) (a : Int) : Fn Try.prog 30 [.d (encL l), .d (.int .i64 a)] [] (.d (.bool (l.is a))) [] := by
  refine Does.run Try.func30 rfl Try.ntmps30 rfl fun K hK => ?_
  refine Runs.rseq ?_
  refine RO.opv (v' := .d (.bool false)) (opv_assign rfl) rfl ?_
  refine RO.nil ?_
  refine Runs.rseq ?_
  refine RO.opv (v' := .d (encL _)) (opv_move rfl) rfl ?_
  refine RO.opv (v' := .d (.bool true)) (opv_nenil rfl rfl rfl) rfl ?_
  refine RO.opv (v' := .d (.bool true)) (opv_move rfl) rfl ?_
  refine RO.opgv (v' := .d (.int _ _)) rfl (opv_move rfl) rfl ?_
  refine RO.opgv (v' := .d (.bool _)) rfl (opv_bin rfl rfl rfl) rfl ?_
  refine RO.opv (v' := .d (.bool _)) (opv_pick rfl rfl) rfl ?_
  refine RO.opc (opv_move rfl) (fun h1 => ?_) (fun h1 => ?_)
  · try simp only [Z.a, Z.b, Z.c, Z.d, Z.e, Z.f, Z.g, Z.h, Z.i, Z.j, Z.k, Z.l, Z.m] at h1
    refine RO.opgv (v' := .d (.int _ _)) rfl (opv_move rfl) rfl ?_
    refine RO.opgv (v' := .d (encL _)) rfl (opv_move rfl) rfl ?_
    refine RO.opgv (v' := .d (encL _)) rfl (opv_nilCheck_lat rfl) rfl ?_
    refine RO.opgv (v' := .d (.ptr _)) rfl (opv_lat_n rfl rfl) rfl ?_
    refine RO.opgv (v' := .d (.int _ _)) rfl (opv_lat_ldn rfl rfl rfl) rfl ?_
    refine RO.opgv (v' := .d (.bool _)) rfl (opv_bin rfl rfl rfl) rfl ?_
    refine RO.opv (v' := .d (.bool _)) (opv_pick rfl rfl) rfl ?_
    refine RO.opv (v' := .d (.bool _)) (opv_assign rfl) rfl ?_
    refine RO.nil ?_
    refine Runs.ret ?_
    refine EndQ.tmp (.inr rfl) rfl rfl 0 (by exact Nat.le_refl _) (by exact Nat.zero_le _) trivial ⟨?_, rfl⟩
    refine bool_eq ?_; simp [Lt.is]; omega
  · try simp only [Z.a, Z.b, Z.c, Z.d, Z.e, Z.f, Z.g, Z.h, Z.i, Z.j, Z.k, Z.l, Z.m] at h1
    refine RO.off rfl ?_
    refine RO.off rfl ?_
    refine RO.off rfl ?_
    refine RO.off rfl ?_
    refine RO.off rfl ?_
    refine RO.off rfl ?_
    refine RO.opv (v' := .d (.bool false)) (opv_pick rfl rfl) rfl ?_
    refine RO.opv (v' := .d (.bool false)) (opv_assign rfl) rfl ?_
    refine RO.nil ?_
    refine Runs.ret ?_
    refine EndQ.tmp (.inr rfl) rfl rfl 0 (by exact Nat.le_refl _) (by exact Nat.zero_le _) trivial ⟨?_, rfl⟩
    refine bool_eq ?_; simp [Lt.is]; omega
theorem isr_fn (l : Lt) (hl : l.Ok) (a : Int) : Fn Try.prog 30 [.ref 0 0, .d (.int .i64 a)] [latO l] (.d (.bool (l.is a))) [latO l] := by
  refine Does.run Try.func30 rfl Try.ntmps30 rfl fun K hK => ?_
  refine Runs.rseq ?_
  refine RO.opv (v' := .d (.bool false)) (opv_assign rfl) rfl ?_
  refine RO.nil ?_
  refine Runs.rseq ?_
  refine RO.opv (v' := .ref 0 0) (opv_move rfl) rfl ?_
  refine RO.opv (v' := .d (.bool true)) (opv_nenil_ref rfl rfl rfl) rfl ?_
  refine RO.opv (v' := .d (.bool true)) (opv_move rfl) rfl ?_
  refine RO.opgv (v' := .d (.int _ _)) rfl (opv_move rfl) rfl ?_
  refine RO.opgv (v' := .d (.bool _)) rfl (opv_bin rfl rfl rfl) rfl ?_
  refine RO.opv (v' := .d (.bool _)) (opv_pick rfl rfl) rfl ?_
  refine RO.opc (opv_move rfl) (fun h1 => ?_) (fun h1 => ?_)
  · try simp only [Z.a, Z.b, Z.c, Z.d, Z.e, Z.f, Z.g, Z.h, Z.i, Z.j, Z.k, Z.l, Z.m] at h1
    refine RO.opgv (v' := .d (.int _ _)) rfl (opv_move rfl) rfl ?_
    refine RO.opgv (v' := .ref 0 0) rfl (opv_move rfl) rfl ?_
    refine RO.opgv (v' := .ref 0 0) rfl (opv_nilCheck_ref rfl rfl) rfl ?_
    refine RO.opgv (v' := .ref 0 0) rfl (opv_field_ref rfl rfl) rfl ?_
    refine RO.opgv (v' := .d (.int _ _)) rfl (opv_lref_ldn rfl rfl rfl rfl) rfl ?_
    refine RO.opgv (v' := .d (.bool _)) rfl (opv_bin rfl rfl rfl) rfl ?_
    refine RO.opv (v' := .d (.bool _)) (opv_pick rfl rfl) rfl ?_
    refine RO.opv (v' := .d (.bool _)) (opv_assign rfl) rfl ?_
    refine RO.nil ?_
    refine Runs.ret ?_
    refine EndQ.tmp (.inr rfl) rfl rfl 1 (by exact Nat.le_refl _) (by simp) trivial ⟨?_, rfl⟩
    refine bool_eq ?_; simp [Lt.is]; omega
  · try simp only [Z.a, Z.b, Z.c, Z.d, Z.e, Z.f, Z.g, Z.h, Z.i, Z.j, Z.k, Z.l, Z.m] at h1
    refine RO.off rfl ?_
    refine RO.off rfl ?_
    refine RO.off rfl ?_
    refine RO.off rfl ?_
    refine RO.off rfl ?_
    refine RO.off rfl ?_
    refine RO.opv (v' := .d (.bool false)) (opv_pick rfl rfl) rfl ?_
    refine RO.opv (v' := .d (.bool false)) (opv_assign rfl) rfl ?_
    refine RO.nil ?_
    refine Runs.ret ?_
    refine EndQ.tmp (.inr rfl) rfl rfl 1 (by exact Nat.le_refl _) (by simp) trivial ⟨?_, rfl⟩
    refine bool_eq ?_; simp [Lt.is]; omega
theorem llen_fn (l : Lt) : Fn Try.prog 41 [.d (encL l)] [] (.d (.int .i64 ((l.n : Nat) : Int))) [] := by
  refine Does.run Try.func41 rfl Try.ntmps41 rfl fun K hK => ?_
  refine Runs.rseq ?_
  refine RO.opv (v' := .d (.int _ _)) (opv_assign rfl) rfl ?_
  refine RO.nil ?_
  refine Runs.seq ?_
  refine Runs.rseq ?_
  refine RO.opv (v' := .d (encL _)) (opv_move rfl) rfl ?_
  refine RO.opv (v' := .d (.bool false)) (opv_eqnil rfl rfl rfl) rfl ?_
  refine RO.nil ?_
  refine Runs.condF rfl ?_
  refine Runs.skip ?_
  refine thenQ_normal ?_
  refine Runs.has [(0, .d (encL _)), (2, .d (.int _ _))] ⟨rfl, rfl, trivial⟩ ?_
  refine Runs.rseq ?_
  refine RO.opv (v' := .d (encL _)) (opv_move rfl) rfl ?_
  refine RO.opv (v' := .d (encL _)) (opv_nilCheck_lat rfl) rfl ?_
  refine RO.opv (v' := .d (.ptr _)) (opv_lat_n rfl rfl) rfl ?_
  refine RO.opv (v' := .d (.int _ _)) (opv_lat_ldn rfl rfl rfl) rfl ?_
  refine RO.opv (v' := .d (.int _ _)) (opv_assign rfl) rfl ?_
  refine RO.nil ?_
  refine Runs.ret ?_
  refine EndQ.tmp (.inr rfl) rfl rfl 0 (by exact Nat.le_refl _) (by exact Nat.zero_le _) trivial ⟨?_, rfl⟩
  rfl
theorem leq_fn (l : Lt) (hl : l.Ok) (a b : Int) : Fn Try.prog 14 [.d (encL l), .d (.int .i64 a), .d (.int .i64 b)] [] (.d (.bool (l.leq a b))) [] := by
  have hn := hl.n16
  refine Does.run Try.func14 rfl Try.ntmps14 rfl fun K hK => ?_
  refine Runs.rseq ?_
  refine RO.opv (v' := .d (.bool false)) (opv_assign rfl) rfl ?_
  refine RO.nil ?_
  refine Runs.rseq ?_
  refine RO.opv (v' := .d (encL _)) (opv_move rfl) rfl ?_
  refine RO.opv (v' := .d (.int _ _)) (opv_move rfl) rfl ?_
  refine RO.opv (v' := .d (.bool _)) (opv_callF (is_fn l hl _) rfl rfl rfl trivial) rfl ?_
  refine RO.opc (opv_move rfl) (fun h1 => ?_) (fun h1 => ?_)
  · try simp only [Z.a, Z.b, Z.c, Z.d, Z.e, Z.f, Z.g, Z.h, Z.i, Z.j, Z.k, Z.l, Z.m] at h1
    obtain ⟨ha0, ha1⟩ := Lt.is_iff.1 h1
    refine RO.opgv (v' := .d (encL _)) rfl (opv_move rfl) rfl ?_
    refine RO.opgv (v' := .d (.int _ _)) rfl (opv_move rfl) rfl ?_
    refine RO.opgv (v' := .d (.bool _)) rfl (opv_callF (is_fn l hl _) rfl rfl rfl trivial) rfl ?_
    refine RO.opv (v' := .d (.bool _)) (opv_pick rfl rfl) rfl ?_
    refine RO.opc (opv_move rfl) (fun h2 => ?_) (fun h2 => ?_)
    · try simp only [Z.a, Z.b, Z.c, Z.d, Z.e, Z.f, Z.g, Z.h, Z.i, Z.j, Z.k, Z.l, Z.m] at h2
      obtain ⟨hb0, hb1⟩ := Lt.is_iff.1 h2
      refine RO.opgv (v' := .d (encL _)) rfl (opv_move rfl) rfl ?_
      refine RO.opgv (v' := .d (.int _ _)) rfl (opv_move rfl) rfl ?_
      refine RO.opgv (v' := .d (encL _)) rfl (opv_nilCheck_lat rfl) rfl ?_
      refine RO.opgv (v' := .d (.ptr _)) rfl (opv_lat_u rfl rfl) rfl ?_
      refine RO.opgv (v' := .d (.ptr _)) rfl (opv_ups_ix rfl rfl (by omega) (by omega) rfl rfl) rfl ?_
      refine RO.opgv (v' := .d (.int _ _)) rfl (opv_ups_ld rfl hl (by omega) rfl rfl) rfl ?_
      refine RO.opgv (v' := .d (.int _ _)) rfl (opv_move rfl) rfl ?_
      refine RO.opgv (v' := .d (.int _ _)) rfl (opv_conv (r := ((b.toNat : Nat) : Int)) rfl ((wrapu (by omega) (by omega)).trans (by omega))) rfl ?_
      refine RO.opgv (v' := .d (.int _ _)) rfl (opv_shr rfl rfl (by omega)) rfl ?_
      refine RO.opgv (v' := .d (.int _ _)) rfl (opv_and1 rfl rfl (hl.u _)) rfl ?_
      refine RO.opgv (v' := .d (.bool _)) rfl (opv_testbit rfl rfl) rfl ?_
      refine RO.opv (v' := .d (.bool _)) (opv_pick rfl rfl) rfl ?_
      refine RO.opv (v' := .d (.bool _)) (opv_assign rfl) rfl ?_
      refine RO.nil ?_
      refine Runs.ret ?_
      refine EndQ.tmp (.inr rfl) rfl rfl 0 (by exact Nat.le_refl _) (by exact Nat.zero_le _) trivial ⟨?_, rfl⟩
      refine bool_eq ?_; simp [Lt.leq, Lt.bit, *]
    · try simp only [Z.a, Z.b, Z.c, Z.d, Z.e, Z.f, Z.g, Z.h, Z.i, Z.j, Z.k, Z.l, Z.m] at h2
      skip
      refine RO.off rfl ?_
      refine RO.off rfl ?_
      refine RO.off rfl ?_
      refine RO.off rfl ?_
      refine RO.off rfl ?_
      refine RO.off rfl ?_
      refine RO.off rfl ?_
      refine RO.off rfl ?_
      refine RO.off rfl ?_
      refine RO.off rfl ?_
      refine RO.off rfl ?_
      refine RO.opv (v' := .d (.bool false)) (opv_pick rfl rfl) rfl ?_
      refine RO.opv (v' := .d (.bool false)) (opv_assign rfl) rfl ?_
      refine RO.nil ?_
      refine Runs.ret ?_
      refine EndQ.tmp (.inr rfl) rfl rfl 0 (by exact Nat.le_refl _) (by exact Nat.zero_le _) trivial ⟨?_, rfl⟩
      refine bool_eq ?_; simp [Lt.leq, Lt.bit, *]
  · try simp only [Z.a, Z.b, Z.c, Z.d, Z.e, Z.f, Z.g, Z.h, Z.i, Z.j, Z.k, Z.l, Z.m] at h1
    skip
    refine RO.off rfl ?_
    refine RO.off rfl ?_
    refine RO.off rfl ?_
    refine RO.opv (v' := .d (.bool false)) (opv_pick rfl rfl) rfl ?_
    refine RO.opv (v' := .d (.bool false)) (opv_move rfl) rfl ?_
    refine RO.off rfl ?_
    refine RO.off rfl ?_
    refine RO.off rfl ?_
    refine RO.off rfl ?_
    refine RO.off rfl ?_
    refine RO.off rfl ?_
    refine RO.off rfl ?_
    refine RO.off rfl ?_
    refine RO.off rfl ?_
    refine RO.off rfl ?_
    refine RO.off rfl ?_
    refine RO.opv (v' := .d (.bool false)) (opv_pick rfl rfl) rfl ?_
    refine RO.opv (v' := .d (.bool false)) (opv_assign rfl) rfl ?_
    refine RO.nil ?_
    refine Runs.ret ?_
    refine EndQ.tmp (.inr rfl) rfl rfl 0 (by exact Nat.le_refl _) (by exact Nat.zero_le _) trivial ⟨?_, rfl⟩
    refine bool_eq ?_; simp [Lt.leq, Lt.bit, *]
theorem ljoin_fn (l : Lt) (hl : l.Ok) (a b : Int) : Fn Try.prog 32 [.d (encL l), .d (.int .i64 a), .d (.int .i64 b)] [] (.d (.int .i64 (l.join a b))) [] := by
  have hn := hl.n16
  have hM : (l.u a.toNat &&& l.u b.toNat) < 2 ^ 16 := Nat.lt_of_le_of_lt Nat.and_le_left (hl.u _)
  refine Does.run Try.func32 rfl Try.ntmps32 rfl fun K hK => ?_
  refine Runs.rseq ?_
  refine RO.opv (v' := .d (.int _ _)) (opv_assign rfl) rfl ?_
  refine RO.nil ?_
  refine Runs.seq ?_
  refine Runs.rseq ?_
  refine RO.opv (v' := .d (encL _)) (opv_move rfl) rfl ?_
  refine RO.opv (v' := .d (.int _ _)) (opv_move rfl) rfl ?_
  refine RO.opv (v' := .d (.bool _)) (opv_callF (is_fn l hl _) rfl rfl rfl trivial) rfl ?_
  refine RO.opv (v' := .d (.bool _)) (opv_not rfl rfl) rfl ?_
  refine RO.opc (opv_move rfl) (fun h1 => ?_) (fun h1 => ?_)
  · try simp only [Z.a, Z.b, Z.c, Z.d, Z.e, Z.f, Z.g, Z.h, Z.i, Z.j, Z.k, Z.l, Z.m] at h1
    have hx := h1
    refine RO.off rfl ?_
    refine RO.off rfl ?_
    refine RO.off rfl ?_
    refine RO.off rfl ?_
    refine RO.opv (v' := .d (.bool true)) (opv_pick rfl rfl) rfl ?_
    refine RO.nil ?_
    refine Runs.condT rfl ?_
    refine Runs.has [(0, .d (encL _)), (1, .d (.int _ _)), (2, .d (.int _ _)), (6, .d (.int _ _))] ⟨rfl, rfl, rfl, rfl, trivial⟩ ?_
    refine Runs.rseq ?_
    refine RO.opv (v' := .d (.int _ _)) (opv_assign rfl) rfl ?_
    refine RO.nil ?_
    refine Runs.ret ?_
    refine thenQ_ret ?_
    refine EndQ.tmp (.inr rfl) rfl rfl 0 (by exact Nat.le_refl _) (by exact Nat.zero_le _) trivial ⟨?_, rfl⟩
    refine int_eq ?_; exact (Lt.join_no (.inl hx)).symm
  · try simp only [Z.a, Z.b, Z.c, Z.d, Z.e, Z.f, Z.g, Z.h, Z.i, Z.j, Z.k, Z.l, Z.m] at h1
    have hx := h1
    obtain ⟨ha0, ha1⟩ := Lt.is_iff.1 h1
    refine RO.opgv (v' := .d (encL _)) rfl (opv_move rfl) rfl ?_
    refine RO.opgv (v' := .d (.int _ _)) rfl (opv_move rfl) rfl ?_
    refine RO.opgv (v' := .d (.bool _)) rfl (opv_callF (is_fn l hl _) rfl rfl rfl trivial) rfl ?_
    refine RO.opgv (v' := .d (.bool _)) rfl (opv_not rfl rfl) rfl ?_
    refine RO.opc (opv_pick rfl rfl) (fun h2 => ?_) (fun h2 => ?_)
    · try simp only [Z.a, Z.b, Z.c, Z.d, Z.e, Z.f, Z.g, Z.h, Z.i, Z.j, Z.k, Z.l, Z.m] at h2
      have hy := h2
      refine RO.nil ?_
      refine Runs.condT rfl ?_
      refine Runs.has [(0, .d (encL _)), (1, .d (.int _ _)), (2, .d (.int _ _)), (6, .d (.int _ _))] ⟨rfl, rfl, rfl, rfl, trivial⟩ ?_
      refine Runs.rseq ?_
      refine RO.opv (v' := .d (.int _ _)) (opv_assign rfl) rfl ?_
      refine RO.nil ?_
      refine Runs.ret ?_
      refine thenQ_ret ?_
      refine EndQ.tmp (.inr rfl) rfl rfl 0 (by exact Nat.le_refl _) (by exact Nat.zero_le _) trivial ⟨?_, rfl⟩
      refine int_eq ?_; exact (Lt.join_no (.inr hy)).symm
    · try simp only [Z.a, Z.b, Z.c, Z.d, Z.e, Z.f, Z.g, Z.h, Z.i, Z.j, Z.k, Z.l, Z.m] at h2
      have hy := h2
      obtain ⟨hb0, hb1⟩ := Lt.is_iff.1 h2
      refine RO.nil ?_
      refine Runs.condF rfl ?_
      refine Runs.skip ?_
      refine thenQ_normal ?_
      refine Runs.has [(0, .d (encL _)), (1, .d (.int _ _)), (2, .d (.int _ _)), (6, .d (.int _ _))] ⟨rfl, rfl, rfl, rfl, trivial⟩ ?_
      refine Runs.seq ?_
      refine Runs.drawn (by kernel_rfl) [] [false, false, false, false, false, false, false, false, false, false, false, false, false, false] [false, false, false, false, false, false, false, false, false, false, false, false, false, false] (by decide +kernel) ?_
      refine RD.opv (v' := .d (encL _)) (opv_move rfl) rfl ?_
      refine RD.opv (v' := .d (.int _ _)) (opv_move rfl) rfl ?_
      refine RD.opv (v' := .d (encL _)) (opv_nilCheck_lat rfl) rfl ?_
      refine RD.opv (v' := .d (.ptr _)) (opv_lat_u rfl rfl) rfl ?_
      refine RD.opv (v' := .d (.ptr _)) (opv_ups_ix rfl rfl (by omega) (by omega) rfl rfl) rfl ?_
      refine RD.opv (v' := .d (.int _ _)) (opv_ups_ld rfl hl (by omega) rfl rfl) rfl ?_
      refine RD.opv (v' := .d (encL _)) (opv_move rfl) rfl ?_
      refine RD.opv (v' := .d (.int _ _)) (opv_move rfl) rfl ?_
      refine RD.opv (v' := .d (encL _)) (opv_nilCheck_lat rfl) rfl ?_
      refine RD.opv (v' := .d (.ptr _)) (opv_lat_u rfl rfl) rfl ?_
      refine RD.opv (v' := .d (.ptr _)) (opv_ups_ix rfl rfl (by omega) (by omega) rfl rfl) rfl ?_
      refine RD.opv (v' := .d (.int _ _)) (opv_ups_ld rfl hl (by omega) rfl rfl) rfl ?_
      refine RD.opv (v' := .d (.int _ _)) (opv_bin rfl rfl (binD_and (sm64 (hl.u _)) (sm64 (hl.u _)))) rfl ?_
      refine RD.opv (v' := .d (.int _ _)) (opv_assign rfl) rfl ?_
      refine RD.nil ?_
      refine thenQ_normal ?_
      refine Runs.has [(0, .d (encL _)), (6, .d (.int _ _)), (7, .d (.int _ _))] ⟨rfl, rfl, rfl, trivial⟩ ?_
      refine Runs.seq ?_
      refine Runs.rseq ?_
      refine RO.opv (v' := .d (encL _)) (opv_move rfl) rfl ?_
      refine RO.opv (v' := .d (encL _)) (opv_nilCheck_lat rfl) rfl ?_
      refine RO.opv (v' := .d (.ptr _)) (opv_lat_n rfl rfl) rfl ?_
      refine RO.opv (v' := .d (.int _ _)) (opv_lat_ldn rfl rfl rfl) rfl ?_
      refine RO.opv (v' := .d (.int _ _)) (opv_move rfl) rfl ?_
      refine RO.nil ?_
      refine Runs.block ?_
      refine Runs.loopC (X := Nat) (fun i => i ≤ l.n ∧ ∀ j, j < i → l.jp (l.u a.toNat &&& l.u b.toNat) j = false) (fun i => l.n - i) [(0, .d (encL _)), (7, .d (.int _ _)), (35, .d (.int _ _))] (fun i => [(36, .d (.int .i64 (i : Nat)))]) [] (fun i => []) (0) ⟨rfl, rfl, rfl, trivial⟩ ⟨rfl, trivial⟩ rfl ⟨Nat.zero_le _, fun j h => absurd h (Nat.not_lt_zero _)⟩ fun i hi => ?_
      refine Runs.rseq ?_
      refine RO.opc (opv_bin rfl rfl rfl) (fun h3 => ?_) (fun h3 => ?_)
      · try simp only [Z.a, Z.b, Z.c, Z.d, Z.e, Z.f, Z.g, Z.h, Z.i, Z.j, Z.k, Z.l, Z.m] at h3
        have hk : i < l.n := by omega
        refine RO.nil ?_
        refine Runs.seq ?_
        refine Runs.condT rfl ?_
        refine Runs.skip ?_
        refine thenQ_normal ?_
        refine Runs.has [(0, .d (encL _)), (7, .d (.int _ _)), (35, .d (.int _ _)), (36, .d (.int _ _))] ⟨rfl, rfl, rfl, rfl, trivial⟩ ?_
        refine Runs.seq ?_
        refine Runs.block ?_
        refine Runs.rseq ?_
        refine RO.opv (v' := .d (.int _ _)) (opv_move rfl) rfl ?_
        refine RO.opv (v' := .d (.int _ _)) (opv_assign rfl) rfl ?_
        refine RO.nil ?_
        refine Runs.has [(0, .d (encL _)), (7, .d (.int _ _)), (8, .d (.int _ _)), (35, .d (.int _ _)), (36, .d (.int _ _))] ⟨rfl, rfl, rfl, rfl, rfl, trivial⟩ ?_
        refine Runs.rseq ?_
        refine RO.opv (v' := .d (.int _ _)) (opv_move rfl) rfl ?_
        refine RO.opv (v' := .d (.int _ _)) (opv_move rfl) rfl ?_
        refine RO.opv (v' := .d (.int _ _)) (opv_conv (r := ((i : Nat) : Int)) rfl ((wrapu (by omega) (by omega)).trans (by omega))) rfl ?_
        refine RO.opv (v' := .d (.int _ _)) (opv_shr rfl rfl (by omega)) rfl ?_
        refine RO.opv (v' := .d (.int _ _)) (opv_and1 rfl rfl hM) rfl ?_
        refine RO.opv (v' := .d (.bool _)) (opv_testbit rfl rfl) rfl ?_
        refine RO.opc (opv_move rfl) (fun h4 => ?_) (fun h4 => ?_)
        · try simp only [Z.a, Z.b, Z.c, Z.d, Z.e, Z.f, Z.g, Z.h, Z.i, Z.j, Z.k, Z.l, Z.m] at h4
          have ht := h4
          refine RO.opgv (v' := .d (encL _)) rfl (opv_move rfl) rfl ?_
          refine RO.opgv (v' := .d (.int _ _)) rfl (opv_move rfl) rfl ?_
          refine RO.opgv (v' := .d (encL _)) rfl (opv_nilCheck_lat rfl) rfl ?_
          refine RO.opgv (v' := .d (.ptr _)) rfl (opv_lat_u rfl rfl) rfl ?_
          refine RO.opgv (v' := .d (.ptr _)) rfl (opv_ups_ixn rfl rfl (by omega) rfl rfl) rfl ?_
          refine RO.opgv (v' := .d (.int _ _)) rfl (opv_ups_ld rfl hl (by omega) rfl rfl) rfl ?_
          refine RO.opgv (v' := .d (.int _ _)) rfl (opv_move rfl) rfl ?_
          refine RO.opgv (v' := .d (.int _ _)) rfl (opv_bin rfl rfl (binD_and (sm64 (hl.u _)) (sm64 hM))) rfl ?_
          refine RO.opgv (v' := .d (.int _ _)) rfl (opv_move rfl) rfl ?_
          refine RO.opgv (v' := .d (.bool _)) rfl (opv_bin rfl rfl rfl) rfl ?_
          refine RO.opc (opv_pick rfl rfl) (fun h5 => ?_) (fun h5 => ?_)
          · try simp only [Z.a, Z.b, Z.c, Z.d, Z.e, Z.f, Z.g, Z.h, Z.i, Z.j, Z.k, Z.l, Z.m] at h5
            have he := h5
            refine RO.nil ?_
            refine Runs.condT rfl ?_
            refine Runs.has [(0, .d (encL _)), (7, .d (.int _ _)), (8, .d (.int _ _)), (35, .d (.int _ _)), (36, .d (.int _ _))] ⟨rfl, rfl, rfl, rfl, rfl, trivial⟩ ?_
            refine Runs.rseq ?_
            refine RO.opv (v' := .d (.int _ _)) (opv_move rfl) rfl ?_
            refine RO.opv (v' := .d (.int _ _)) (opv_assign rfl) rfl ?_
            refine RO.nil ?_
            refine Runs.ret ?_
            refine blockQ_ret ?_
            refine thenQ_ret ?_
            refine thenQ_ret ?_
            refine blockQ_ret ?_
            refine thenQ_ret ?_
            refine EndQ.tmp (.inr rfl) rfl rfl 0 (by exact Nat.le_refl _) (by exact Nat.zero_le _) trivial ⟨?_, rfl⟩
            refine int_eq ?_; exact (Lt.join_found hx hy hk (jp_yes ht he) hi.2).symm
          · try simp only [Z.a, Z.b, Z.c, Z.d, Z.e, Z.f, Z.g, Z.h, Z.i, Z.j, Z.k, Z.l, Z.m] at h5
            have he := h5
            refine RO.nil ?_
            refine Runs.condF rfl ?_
            refine Runs.skip ?_
            refine blockQ_normal ?_
            refine thenQ_normal ?_
            refine Runs.has [(0, .d (encL _)), (7, .d (.int _ _)), (35, .d (.int _ _)), (36, .d (.int _ _))] ⟨rfl, rfl, rfl, rfl, trivial⟩ ?_
            refine Runs.region ?_
            refine RO.opv (v' := .d (.int _ _)) (opv_bin rfl rfl rfl) rfl ?_
            refine RO.opv (v' := .d (.int _ _)) (opv_move rfl) rfl ?_
            refine RO.nil ?_
            refine thenQ_normal ?_
            refine ⟨i + 1, 0, (by rw [hK]; exact Nat.le_of_ble_eq_true rfl), ⟨rfl, rfl, rfl, trivial⟩, ⟨?_, trivial⟩, rfl, ?_, ?_⟩
            · refine int_eq ?_; rw [wrap64 (by omega) (by omega)]; omega
            · exact ⟨by omega, lt_split hi.2 (jp_no2 he)⟩
            · omega
        · try simp only [Z.a, Z.b, Z.c, Z.d, Z.e, Z.f, Z.g, Z.h, Z.i, Z.j, Z.k, Z.l, Z.m] at h4
          have ht := h4
          refine RO.off rfl ?_
          refine RO.off rfl ?_
          refine RO.off rfl ?_
          refine RO.off rfl ?_
          refine RO.off rfl ?_
          refine RO.off rfl ?_
          refine RO.off rfl ?_
          refine RO.off rfl ?_
          refine RO.off rfl ?_
          refine RO.off rfl ?_
          refine RO.opv (v' := .d (.bool false)) (opv_pick rfl rfl) rfl ?_
          refine RO.nil ?_
          refine Runs.condF rfl ?_
          refine Runs.skip ?_
          refine blockQ_normal ?_
          refine thenQ_normal ?_
          refine Runs.has [(0, .d (encL _)), (7, .d (.int _ _)), (35, .d (.int _ _)), (36, .d (.int _ _))] ⟨rfl, rfl, rfl, rfl, trivial⟩ ?_
          refine Runs.region ?_
          refine RO.opv (v' := .d (.int _ _)) (opv_bin rfl rfl rfl) rfl ?_
          refine RO.opv (v' := .d (.int _ _)) (opv_move rfl) rfl ?_
          refine RO.nil ?_
          refine thenQ_normal ?_
          refine ⟨i + 1, 0, (by rw [hK]; exact Nat.le_of_ble_eq_true rfl), ⟨rfl, rfl, rfl, trivial⟩, ⟨?_, trivial⟩, rfl, ?_, ?_⟩
          · refine int_eq ?_; rw [wrap64 (by omega) (by omega)]; omega
          · exact ⟨by omega, lt_split hi.2 (jp_no1 ht)⟩
          · omega
      · try simp only [Z.a, Z.b, Z.c, Z.d, Z.e, Z.f, Z.g, Z.h, Z.i, Z.j, Z.k, Z.l, Z.m] at h3
        have hk : i = l.n := by omega
        refine RO.nil ?_
        refine Runs.seq ?_
        refine Runs.condF rfl ?_
        refine Runs.exit ?_
        refine thenQ_exit ?_
        refine thenQ_exit ?_
        refine blockQ_here ?_
        refine thenQ_normal ?_
        refine Runs.has [] trivial ?_
        refine Runs.rseq ?_
        refine RO.opv (v' := .d (.int _ _)) (opv_assign rfl) rfl ?_
        refine RO.nil ?_
        refine Runs.ret ?_
        refine EndQ.tmp (.inr rfl) rfl rfl 0 (by exact Nat.le_refl _) (by exact Nat.zero_le _) trivial ⟨?_, rfl⟩
        refine int_eq ?_; exact (Lt.join_none hx hy (by rw [← hk]; exact hi.2)).symm
theorem lmeet_fn (l : Lt) (hl : l.Ok) (a b : Int) : Fn Try.prog 33 [.d (encL l), .d (.int .i64 a), .d (.int .i64 b)] [] (.d (.int .i64 (l.meet a b))) [] := by
  have hn := hl.n16
  refine Does.run Try.func33 rfl Try.ntmps33 rfl fun K hK => ?_
  refine Runs.rseq ?_
  refine RO.opv (v' := .d (.int _ _)) (opv_assign rfl) rfl ?_
  refine RO.nil ?_
  refine Runs.seq ?_
  refine Runs.rseq ?_
  refine RO.opv (v' := .d (encL _)) (opv_move rfl) rfl ?_
  refine RO.opv (v' := .d (.int _ _)) (opv_move rfl) rfl ?_
  refine RO.opv (v' := .d (.bool _)) (opv_callF (is_fn l hl _) rfl rfl rfl trivial) rfl ?_
  refine RO.opv (v' := .d (.bool _)) (opv_not rfl rfl) rfl ?_
  refine RO.opc (opv_move rfl) (fun h1 => ?_) (fun h1 => ?_)
  · try simp only [Z.a, Z.b, Z.c, Z.d, Z.e, Z.f, Z.g, Z.h, Z.i, Z.j, Z.k, Z.l, Z.m] at h1
    have hx := h1
    refine RO.off rfl ?_
    refine RO.off rfl ?_
    refine RO.off rfl ?_
    refine RO.off rfl ?_
    refine RO.opv (v' := .d (.bool true)) (opv_pick rfl rfl) rfl ?_
    refine RO.nil ?_
    refine Runs.condT rfl ?_
    refine Runs.has [(0, .d (encL _)), (1, .d (.int _ _)), (2, .d (.int _ _)), (6, .d (.int _ _))] ⟨rfl, rfl, rfl, rfl, trivial⟩ ?_
    refine Runs.rseq ?_
    refine RO.opv (v' := .d (.int _ _)) (opv_assign rfl) rfl ?_
    refine RO.nil ?_
    refine Runs.ret ?_
    refine thenQ_ret ?_
    refine EndQ.tmp (.inr rfl) rfl rfl 0 (by exact Nat.le_refl _) (by exact Nat.zero_le _) trivial ⟨?_, rfl⟩
    refine int_eq ?_; exact (Lt.meet_no (.inl hx)).symm
  · try simp only [Z.a, Z.b, Z.c, Z.d, Z.e, Z.f, Z.g, Z.h, Z.i, Z.j, Z.k, Z.l, Z.m] at h1
    have hx := h1
    refine RO.opgv (v' := .d (encL _)) rfl (opv_move rfl) rfl ?_
    refine RO.opgv (v' := .d (.int _ _)) rfl (opv_move rfl) rfl ?_
    refine RO.opgv (v' := .d (.bool _)) rfl (opv_callF (is_fn l hl _) rfl rfl rfl trivial) rfl ?_
    refine RO.opgv (v' := .d (.bool _)) rfl (opv_not rfl rfl) rfl ?_
    refine RO.opc (opv_pick rfl rfl) (fun h2 => ?_) (fun h2 => ?_)
    · try simp only [Z.a, Z.b, Z.c, Z.d, Z.e, Z.f, Z.g, Z.h, Z.i, Z.j, Z.k, Z.l, Z.m] at h2
      have hy := h2
      refine RO.nil ?_
      refine Runs.condT rfl ?_
      refine Runs.has [(0, .d (encL _)), (1, .d (.int _ _)), (2, .d (.int _ _)), (6, .d (.int _ _))] ⟨rfl, rfl, rfl, rfl, trivial⟩ ?_
      refine Runs.rseq ?_
      refine RO.opv (v' := .d (.int _ _)) (opv_assign rfl) rfl ?_
      refine RO.nil ?_
      refine Runs.ret ?_
      refine thenQ_ret ?_
      refine EndQ.tmp (.inr rfl) rfl rfl 0 (by exact Nat.le_refl _) (by exact Nat.zero_le _) trivial ⟨?_, rfl⟩
      refine int_eq ?_; exact (Lt.meet_no (.inr hy)).symm
    · try simp only [Z.a, Z.b, Z.c, Z.d, Z.e, Z.f, Z.g, Z.h, Z.i, Z.j, Z.k, Z.l, Z.m] at h2
      have hy := h2
      refine RO.nil ?_
      refine Runs.condF rfl ?_
      refine Runs.skip ?_
      refine thenQ_normal ?_
      refine Runs.has [(0, .d (encL _)), (1, .d (.int _ _)), (2, .d (.int _ _)), (6, .d (.int _ _))] ⟨rfl, rfl, rfl, rfl, trivial⟩ ?_
      refine Runs.rseq ?_
      refine RO.opv (v' := .d (.int _ _)) (opv_assign rfl) rfl ?_
      refine RO.nil ?_
      refine Runs.seq ?_
      refine Runs.rseq ?_
      refine RO.opv (v' := .d (encL _)) (opv_move rfl) rfl ?_
      refine RO.opv (v' := .d (encL _)) (opv_nilCheck_lat rfl) rfl ?_
      refine RO.opv (v' := .d (.ptr _)) (opv_lat_n rfl rfl) rfl ?_
      refine RO.opv (v' := .d (.int _ _)) (opv_lat_ldn rfl rfl rfl) rfl ?_
      refine RO.opv (v' := .d (.int _ _)) (opv_move rfl) rfl ?_
      refine RO.nil ?_
      refine Runs.block ?_
      refine Runs.loopC (X := Nat) (fun i => i ≤ l.n) (fun i => l.n - i) [(0, .d (encL _)), (1, .d (.int _ _)), (2, .d (.int _ _)), (6, .d (.int _ _)), (23, .d (.int _ _))] (fun i => [(7, .d (.int .i64 (l.best a b i))), (24, .d (.int .i64 (i : Nat)))]) [] (fun i => []) (0) ⟨rfl, rfl, rfl, rfl, rfl, trivial⟩ ⟨rfl, rfl, trivial⟩ rfl (by omega) fun i hi => ?_
      refine Runs.rseq ?_
      refine RO.opc (opv_bin rfl rfl rfl) (fun h3 => ?_) (fun h3 => ?_)
      · try simp only [Z.a, Z.b, Z.c, Z.d, Z.e, Z.f, Z.g, Z.h, Z.i, Z.j, Z.k, Z.l, Z.m] at h3
        have hk : i < l.n := by omega
        refine RO.nil ?_
        refine Runs.seq ?_
        refine Runs.condT rfl ?_
        refine Runs.skip ?_
        refine thenQ_normal ?_
        refine Runs.has [(0, .d (encL _)), (1, .d (.int _ _)), (2, .d (.int _ _)), (6, .d (.int _ _)), (7, .d (.int _ _)), (23, .d (.int _ _)), (24, .d (.int _ _))] ⟨rfl, rfl, rfl, rfl, rfl, rfl, rfl, trivial⟩ ?_
        refine Runs.seq ?_
        refine Runs.block ?_
        refine Runs.rseq ?_
        refine RO.opv (v' := .d (.int _ _)) (opv_move rfl) rfl ?_
        refine RO.opv (v' := .d (.int _ _)) (opv_assign rfl) rfl ?_
        refine RO.nil ?_
        refine Runs.has [(0, .d (encL _)), (1, .d (.int _ _)), (2, .d (.int _ _)), (6, .d (.int _ _)), (7, .d (.int _ _)), (8, .d (.int _ _)), (23, .d (.int _ _)), (24, .d (.int _ _))] ⟨rfl, rfl, rfl, rfl, rfl, rfl, rfl, rfl, trivial⟩ ?_
        refine Runs.rseq ?_
        refine RO.opv (v' := .d (encL _)) (opv_move rfl) rfl ?_
        refine RO.opv (v' := .d (.int _ _)) (opv_move rfl) rfl ?_
        refine RO.opv (v' := .d (.int _ _)) (opv_move rfl) rfl ?_
        refine RO.opv (v' := .d (.bool _)) (opv_callF (leq_fn l hl _ _) rfl rfl rfl trivial) rfl ?_
        refine RO.opc (opv_move rfl) (fun h4 => ?_) (fun h4 => ?_)
        · try simp only [Z.a, Z.b, Z.c, Z.d, Z.e, Z.f, Z.g, Z.h, Z.i, Z.j, Z.k, Z.l, Z.m] at h4
          refine RO.opgv (v' := .d (encL _)) rfl (opv_move rfl) rfl ?_
          refine RO.opgv (v' := .d (.int _ _)) rfl (opv_move rfl) rfl ?_
          refine RO.opgv (v' := .d (.int _ _)) rfl (opv_move rfl) rfl ?_
          refine RO.opgv (v' := .d (.bool _)) rfl (opv_callF (leq_fn l hl _ _) rfl rfl rfl trivial) rfl ?_
          refine RO.opv (v' := .d (.bool _)) (opv_pick rfl rfl) rfl ?_
          refine RO.opc (opv_move rfl) (fun h5 => ?_) (fun h5 => ?_)
          · try simp only [Z.a, Z.b, Z.c, Z.d, Z.e, Z.f, Z.g, Z.h, Z.i, Z.j, Z.k, Z.l, Z.m] at h5
            refine RO.opgv (v' := .d (.int _ _)) rfl (opv_move rfl) rfl ?_
            refine RO.opgv (v' := .d (.bool _)) rfl (opv_bin rfl rfl rfl) rfl ?_
            refine RO.opgc rfl (opv_move rfl) (fun h6 => ?_) (fun h6 => ?_)
            · try simp only [Z.a, Z.b, Z.c, Z.d, Z.e, Z.f, Z.g, Z.h, Z.i, Z.j, Z.k, Z.l, Z.m] at h6
              refine RO.off rfl ?_
              refine RO.off rfl ?_
              refine RO.off rfl ?_
              refine RO.off rfl ?_
              refine RO.opgv (v' := .d (.bool true)) rfl (opv_pick rfl rfl) rfl ?_
              refine RO.opv (v' := .d (.bool true)) (opv_pick rfl rfl) rfl ?_
              refine RO.nil ?_
              refine Runs.condT rfl ?_
              refine Runs.has [(0, .d (encL _)), (1, .d (.int _ _)), (2, .d (.int _ _)), (6, .d (.int _ _)), (7, .d (.int _ _)), (8, .d (.int _ _)), (23, .d (.int _ _)), (24, .d (.int _ _))] ⟨rfl, rfl, rfl, rfl, rfl, rfl, rfl, rfl, trivial⟩ ?_
              refine Runs.region ?_
              refine RO.opv (v' := .d (.int _ _)) (opv_move rfl) rfl ?_
              refine RO.opv (v' := .d (.int _ _)) (opv_assign rfl) rfl ?_
              refine RO.nil ?_
              refine blockQ_normal ?_
              refine thenQ_normal ?_
              refine Runs.has [(0, .d (encL _)), (1, .d (.int _ _)), (2, .d (.int _ _)), (6, .d (.int _ _)), (7, .d (.int _ _)), (23, .d (.int _ _)), (24, .d (.int _ _))] ⟨rfl, rfl, rfl, rfl, rfl, rfl, rfl, trivial⟩ ?_
              refine Runs.region ?_
              refine RO.opv (v' := .d (.int _ _)) (opv_bin rfl rfl rfl) rfl ?_
              refine RO.opv (v' := .d (.int _ _)) (opv_move rfl) rfl ?_
              refine RO.nil ?_
              refine thenQ_normal ?_
              refine ⟨i + 1, 0, (by rw [hK]; exact Nat.le_of_ble_eq_true rfl), ⟨rfl, rfl, rfl, rfl, rfl, trivial⟩, ⟨?_, ?_, trivial⟩, rfl, ?_, ?_⟩
              · refine int_eq ?_; rw [Lt.best_succ]; simp [Lt.mstep, *]
              · refine int_eq ?_; rw [wrap64 (by omega) (by omega)]; omega
              · omega
              · omega
            · try simp only [Z.a, Z.b, Z.c, Z.d, Z.e, Z.f, Z.g, Z.h, Z.i, Z.j, Z.k, Z.l, Z.m] at h6
              refine RO.opgv (v' := .d (encL _)) rfl (opv_move rfl) rfl ?_
              refine RO.opgv (v' := .d (.int _ _)) rfl (opv_move rfl) rfl ?_
              refine RO.opgv (v' := .d (.int _ _)) rfl (opv_move rfl) rfl ?_
              refine RO.opgv (v' := .d (.bool _)) rfl (opv_callF (leq_fn l hl _ _) rfl rfl rfl trivial) rfl ?_
              refine RO.opgv (v' := .d (.bool _)) rfl (opv_pick rfl rfl) rfl ?_
              refine RO.opc (opv_pick rfl rfl) (fun h7 => ?_) (fun h7 => ?_)
              · try simp only [Z.a, Z.b, Z.c, Z.d, Z.e, Z.f, Z.g, Z.h, Z.i, Z.j, Z.k, Z.l, Z.m] at h7
                refine RO.nil ?_
                refine Runs.condT rfl ?_
                refine Runs.has [(0, .d (encL _)), (1, .d (.int _ _)), (2, .d (.int _ _)), (6, .d (.int _ _)), (7, .d (.int _ _)), (8, .d (.int _ _)), (23, .d (.int _ _)), (24, .d (.int _ _))] ⟨rfl, rfl, rfl, rfl, rfl, rfl, rfl, rfl, trivial⟩ ?_
                refine Runs.region ?_
                refine RO.opv (v' := .d (.int _ _)) (opv_move rfl) rfl ?_
                refine RO.opv (v' := .d (.int _ _)) (opv_assign rfl) rfl ?_
                refine RO.nil ?_
                refine blockQ_normal ?_
                refine thenQ_normal ?_
                refine Runs.has [(0, .d (encL _)), (1, .d (.int _ _)), (2, .d (.int _ _)), (6, .d (.int _ _)), (7, .d (.int _ _)), (23, .d (.int _ _)), (24, .d (.int _ _))] ⟨rfl, rfl, rfl, rfl, rfl, rfl, rfl, trivial⟩ ?_
                refine Runs.region ?_
                refine RO.opv (v' := .d (.int _ _)) (opv_bin rfl rfl rfl) rfl ?_
                refine RO.opv (v' := .d (.int _ _)) (opv_move rfl) rfl ?_
                refine RO.nil ?_
                refine thenQ_normal ?_
                refine ⟨i + 1, 0, (by rw [hK]; exact Nat.le_of_ble_eq_true rfl), ⟨rfl, rfl, rfl, rfl, rfl, trivial⟩, ⟨?_, ?_, trivial⟩, rfl, ?_, ?_⟩
                · refine int_eq ?_; rw [Lt.best_succ]; simp [Lt.mstep, *]
                · refine int_eq ?_; rw [wrap64 (by omega) (by omega)]; omega
                · omega
                · omega
              · try simp only [Z.a, Z.b, Z.c, Z.d, Z.e, Z.f, Z.g, Z.h, Z.i, Z.j, Z.k, Z.l, Z.m] at h7
                refine RO.nil ?_
                refine Runs.condF rfl ?_
                refine Runs.skip ?_
                refine blockQ_normal ?_
                refine thenQ_normal ?_
                refine Runs.has [(0, .d (encL _)), (1, .d (.int _ _)), (2, .d (.int _ _)), (6, .d (.int _ _)), (7, .d (.int _ _)), (23, .d (.int _ _)), (24, .d (.int _ _))] ⟨rfl, rfl, rfl, rfl, rfl, rfl, rfl, trivial⟩ ?_
                refine Runs.region ?_
                refine RO.opv (v' := .d (.int _ _)) (opv_bin rfl rfl rfl) rfl ?_
                refine RO.opv (v' := .d (.int _ _)) (opv_move rfl) rfl ?_
                refine RO.nil ?_
                refine thenQ_normal ?_
                refine ⟨i + 1, 0, (by rw [hK]; exact Nat.le_of_ble_eq_true rfl), ⟨rfl, rfl, rfl, rfl, rfl, trivial⟩, ⟨?_, ?_, trivial⟩, rfl, ?_, ?_⟩
                · refine int_eq ?_; rw [Lt.best_succ]; simp [Lt.mstep, *]
                · refine int_eq ?_; rw [wrap64 (by omega) (by omega)]; omega
                · omega
                · omega
          · try simp only [Z.a, Z.b, Z.c, Z.d, Z.e, Z.f, Z.g, Z.h, Z.i, Z.j, Z.k, Z.l, Z.m] at h5
            refine RO.off rfl ?_
            refine RO.off rfl ?_
            refine RO.off rfl ?_
            refine RO.off rfl ?_
            refine RO.off rfl ?_
            refine RO.off rfl ?_
            refine RO.off rfl ?_
            refine RO.off rfl ?_
            refine RO.opv (v' := .d (.bool false)) (opv_pick rfl rfl) rfl ?_
            refine RO.nil ?_
            refine Runs.condF rfl ?_
            refine Runs.skip ?_
            refine blockQ_normal ?_
            refine thenQ_normal ?_
            refine Runs.has [(0, .d (encL _)), (1, .d (.int _ _)), (2, .d (.int _ _)), (6, .d (.int _ _)), (7, .d (.int _ _)), (23, .d (.int _ _)), (24, .d (.int _ _))] ⟨rfl, rfl, rfl, rfl, rfl, rfl, rfl, trivial⟩ ?_
            refine Runs.region ?_
            refine RO.opv (v' := .d (.int _ _)) (opv_bin rfl rfl rfl) rfl ?_
            refine RO.opv (v' := .d (.int _ _)) (opv_move rfl) rfl ?_
            refine RO.nil ?_
            refine thenQ_normal ?_
            refine ⟨i + 1, 0, (by rw [hK]; exact Nat.le_of_ble_eq_true rfl), ⟨rfl, rfl, rfl, rfl, rfl, trivial⟩, ⟨?_, ?_, trivial⟩, rfl, ?_, ?_⟩
            · refine int_eq ?_; rw [Lt.best_succ]; simp [Lt.mstep, *]
            · refine int_eq ?_; rw [wrap64 (by omega) (by omega)]; omega
            · omega
            · omega
        · try simp only [Z.a, Z.b, Z.c, Z.d, Z.e, Z.f, Z.g, Z.h, Z.i, Z.j, Z.k, Z.l, Z.m] at h4
          refine RO.off rfl ?_
          refine RO.off rfl ?_
          refine RO.off rfl ?_
          refine RO.off rfl ?_
          refine RO.opv (v' := .d (.bool false)) (opv_pick rfl rfl) rfl ?_
          refine RO.opv (v' := .d (.bool false)) (opv_move rfl) rfl ?_
          refine RO.off rfl ?_
          refine RO.off rfl ?_
          refine RO.off rfl ?_
          refine RO.off rfl ?_
          refine RO.off rfl ?_
          refine RO.off rfl ?_
          refine RO.off rfl ?_
          refine RO.off rfl ?_
          refine RO.opv (v' := .d (.bool false)) (opv_pick rfl rfl) rfl ?_
          refine RO.nil ?_
          refine Runs.condF rfl ?_
          refine Runs.skip ?_
          refine blockQ_normal ?_
          refine thenQ_normal ?_
          refine Runs.has [(0, .d (encL _)), (1, .d (.int _ _)), (2, .d (.int _ _)), (6, .d (.int _ _)), (7, .d (.int _ _)), (23, .d (.int _ _)), (24, .d (.int _ _))] ⟨rfl, rfl, rfl, rfl, rfl, rfl, rfl, trivial⟩ ?_
          refine Runs.region ?_
          refine RO.opv (v' := .d (.int _ _)) (opv_bin rfl rfl rfl) rfl ?_
          refine RO.opv (v' := .d (.int _ _)) (opv_move rfl) rfl ?_
          refine RO.nil ?_
          refine thenQ_normal ?_
          refine ⟨i + 1, 0, (by rw [hK]; exact Nat.le_of_ble_eq_true rfl), ⟨rfl, rfl, rfl, rfl, rfl, trivial⟩, ⟨?_, ?_, trivial⟩, rfl, ?_, ?_⟩
          · refine int_eq ?_; rw [Lt.best_succ]; simp [Lt.mstep, *]
          · refine int_eq ?_; rw [wrap64 (by omega) (by omega)]; omega
          · omega
          · omega
      · try simp only [Z.a, Z.b, Z.c, Z.d, Z.e, Z.f, Z.g, Z.h, Z.i, Z.j, Z.k, Z.l, Z.m] at h3
        have hk : i = l.n := by omega
        refine RO.nil ?_
        refine Runs.seq ?_
        refine Runs.condF rfl ?_
        refine Runs.exit ?_
        refine thenQ_exit ?_
        refine thenQ_exit ?_
        refine blockQ_here ?_
        refine thenQ_normal ?_
        refine Runs.has [(0, .d (encL _)), (1, .d (.int _ _)), (2, .d (.int _ _)), (6, .d (.int _ _)), (7, .d (.int _ _))] ⟨rfl, rfl, rfl, rfl, rfl, trivial⟩ ?_
        refine Runs.seq ?_
        refine Runs.rseq ?_
        refine RO.opv (v' := .d (encL _)) (opv_move rfl) rfl ?_
        refine RO.opv (v' := .d (encL _)) (opv_nilCheck_lat rfl) rfl ?_
        refine RO.opv (v' := .d (.ptr _)) (opv_lat_n rfl rfl) rfl ?_
        refine RO.opv (v' := .d (.int _ _)) (opv_lat_ldn rfl rfl rfl) rfl ?_
        refine RO.opv (v' := .d (.int _ _)) (opv_move rfl) rfl ?_
        refine RO.nil ?_
        refine Runs.block ?_
        subst hk
        refine Runs.loopC (X := Nat) (fun i => i ≤ l.n ∧ ∀ j, j < i → l.mbad a b (l.best a b l.n) j = false) (fun i => l.n - i) [(0, .d (encL _)), (1, .d (.int _ _)), (2, .d (.int _ _)), (7, .d (.int _ _)), (52, .d (.int _ _))] (fun i => [(53, .d (.int .i64 (i : Nat)))]) [] (fun i => []) (0) ⟨rfl, rfl, rfl, rfl, rfl, trivial⟩ ⟨rfl, trivial⟩ rfl ⟨Nat.zero_le _, fun j h => absurd h (Nat.not_lt_zero _)⟩ fun i hi => ?_
        refine Runs.rseq ?_
        refine RO.opc (opv_bin rfl rfl rfl) (fun h8 => ?_) (fun h8 => ?_)
        · try simp only [Z.a, Z.b, Z.c, Z.d, Z.e, Z.f, Z.g, Z.h, Z.i, Z.j, Z.k, Z.l, Z.m] at h8
          have hk2 : i < l.n := by omega
          refine RO.nil ?_
          refine Runs.seq ?_
          refine Runs.condT rfl ?_
          refine Runs.skip ?_
          refine thenQ_normal ?_
          refine Runs.has [(0, .d (encL _)), (1, .d (.int _ _)), (2, .d (.int _ _)), (7, .d (.int _ _)), (52, .d (.int _ _)), (53, .d (.int _ _))] ⟨rfl, rfl, rfl, rfl, rfl, rfl, trivial⟩ ?_
          refine Runs.seq ?_
          refine Runs.block ?_
          refine Runs.rseq ?_
          refine RO.opv (v' := .d (.int _ _)) (opv_move rfl) rfl ?_
          refine RO.opv (v' := .d (.int _ _)) (opv_assign rfl) rfl ?_
          refine RO.nil ?_
          refine Runs.has [(0, .d (encL _)), (1, .d (.int _ _)), (2, .d (.int _ _)), (7, .d (.int _ _)), (9, .d (.int _ _)), (52, .d (.int _ _)), (53, .d (.int _ _))] ⟨rfl, rfl, rfl, rfl, rfl, rfl, rfl, trivial⟩ ?_
          refine Runs.rseq ?_
          refine RO.opv (v' := .d (encL _)) (opv_move rfl) rfl ?_
          refine RO.opv (v' := .d (.int _ _)) (opv_move rfl) rfl ?_
          refine RO.opv (v' := .d (.int _ _)) (opv_move rfl) rfl ?_
          refine RO.opv (v' := .d (.bool _)) (opv_callF (leq_fn l hl _ _) rfl rfl rfl trivial) rfl ?_
          refine RO.opc (opv_move rfl) (fun h9 => ?_) (fun h9 => ?_)
          · try simp only [Z.a, Z.b, Z.c, Z.d, Z.e, Z.f, Z.g, Z.h, Z.i, Z.j, Z.k, Z.l, Z.m] at h9
            refine RO.opgv (v' := .d (encL _)) rfl (opv_move rfl) rfl ?_
            refine RO.opgv (v' := .d (.int _ _)) rfl (opv_move rfl) rfl ?_
            refine RO.opgv (v' := .d (.int _ _)) rfl (opv_move rfl) rfl ?_
            refine RO.opgv (v' := .d (.bool _)) rfl (opv_callF (leq_fn l hl _ _) rfl rfl rfl trivial) rfl ?_
            refine RO.opv (v' := .d (.bool _)) (opv_pick rfl rfl) rfl ?_
            refine RO.opc (opv_move rfl) (fun h10 => ?_) (fun h10 => ?_)
            · try simp only [Z.a, Z.b, Z.c, Z.d, Z.e, Z.f, Z.g, Z.h, Z.i, Z.j, Z.k, Z.l, Z.m] at h10
              refine RO.opgv (v' := .d (encL _)) rfl (opv_move rfl) rfl ?_
              refine RO.opgv (v' := .d (.int _ _)) rfl (opv_move rfl) rfl ?_
              refine RO.opgv (v' := .d (.int _ _)) rfl (opv_move rfl) rfl ?_
              refine RO.opgv (v' := .d (.bool _)) rfl (opv_callF (leq_fn l hl _ _) rfl rfl rfl trivial) rfl ?_
              refine RO.opgv (v' := .d (.bool _)) rfl (opv_not rfl rfl) rfl ?_
              refine RO.opc (opv_pick rfl rfl) (fun h11 => ?_) (fun h11 => ?_)
              · try simp only [Z.a, Z.b, Z.c, Z.d, Z.e, Z.f, Z.g, Z.h, Z.i, Z.j, Z.k, Z.l, Z.m] at h11
                refine RO.nil ?_
                refine Runs.condT rfl ?_
                refine Runs.has [(0, .d (encL _)), (1, .d (.int _ _)), (2, .d (.int _ _)), (7, .d (.int _ _)), (52, .d (.int _ _)), (53, .d (.int _ _))] ⟨rfl, rfl, rfl, rfl, rfl, rfl, trivial⟩ ?_
                refine Runs.rseq ?_
                refine RO.opv (v' := .d (.int _ _)) (opv_assign rfl) rfl ?_
                refine RO.nil ?_
                refine Runs.ret ?_
                refine blockQ_ret ?_
                refine thenQ_ret ?_
                refine thenQ_ret ?_
                refine blockQ_ret ?_
                refine thenQ_ret ?_
                refine EndQ.tmp (.inr rfl) rfl rfl 0 (by exact Nat.le_refl _) (by exact Nat.zero_le _) trivial ⟨?_, rfl⟩
                refine int_eq ?_; exact (Lt.meet_bad hx hy hk2 (by simp [Lt.mbad, *])).symm
              · try simp only [Z.a, Z.b, Z.c, Z.d, Z.e, Z.f, Z.g, Z.h, Z.i, Z.j, Z.k, Z.l, Z.m] at h11
                refine RO.nil ?_
                refine Runs.condF rfl ?_
                refine Runs.skip ?_
                refine blockQ_normal ?_
                refine thenQ_normal ?_
                refine Runs.has [(0, .d (encL _)), (1, .d (.int _ _)), (2, .d (.int _ _)), (7, .d (.int _ _)), (52, .d (.int _ _)), (53, .d (.int _ _))] ⟨rfl, rfl, rfl, rfl, rfl, rfl, trivial⟩ ?_
                refine Runs.region ?_
                refine RO.opv (v' := .d (.int _ _)) (opv_bin rfl rfl rfl) rfl ?_
                refine RO.opv (v' := .d (.int _ _)) (opv_move rfl) rfl ?_
                refine RO.nil ?_
                refine thenQ_normal ?_
                refine ⟨i + 1, 0, (by rw [hK]; exact Nat.le_of_ble_eq_true rfl), ⟨rfl, rfl, rfl, rfl, rfl, trivial⟩, ⟨?_, trivial⟩, rfl, ?_, ?_⟩
                · refine int_eq ?_; rw [wrap64 (by omega) (by omega)]; omega
                · exact ⟨by omega, lt_split hi.2 (by simp [Lt.mbad, *])⟩
                · omega
            · try simp only [Z.a, Z.b, Z.c, Z.d, Z.e, Z.f, Z.g, Z.h, Z.i, Z.j, Z.k, Z.l, Z.m] at h10
              refine RO.off rfl ?_
              refine RO.off rfl ?_
              refine RO.off rfl ?_
              refine RO.off rfl ?_
              refine RO.off rfl ?_
              refine RO.opv (v' := .d (.bool false)) (opv_pick rfl rfl) rfl ?_
              refine RO.nil ?_
              refine Runs.condF rfl ?_
              refine Runs.skip ?_
              refine blockQ_normal ?_
              refine thenQ_normal ?_
              refine Runs.has [(0, .d (encL _)), (1, .d (.int _ _)), (2, .d (.int _ _)), (7, .d (.int _ _)), (52, .d (.int _ _)), (53, .d (.int _ _))] ⟨rfl, rfl, rfl, rfl, rfl, rfl, trivial⟩ ?_
              refine Runs.region ?_
              refine RO.opv (v' := .d (.int _ _)) (opv_bin rfl rfl rfl) rfl ?_
              refine RO.opv (v' := .d (.int _ _)) (opv_move rfl) rfl ?_
              refine RO.nil ?_
              refine thenQ_normal ?_
              refine ⟨i + 1, 0, (by rw [hK]; exact Nat.le_of_ble_eq_true rfl), ⟨rfl, rfl, rfl, rfl, rfl, trivial⟩, ⟨?_, trivial⟩, rfl, ?_, ?_⟩
              · refine int_eq ?_; rw [wrap64 (by omega) (by omega)]; omega
              · exact ⟨by omega, lt_split hi.2 (by simp [Lt.mbad, *])⟩
              · omega
          · try simp only [Z.a, Z.b, Z.c, Z.d, Z.e, Z.f, Z.g, Z.h, Z.i, Z.j, Z.k, Z.l, Z.m] at h9
            refine RO.off rfl ?_
            refine RO.off rfl ?_
            refine RO.off rfl ?_
            refine RO.off rfl ?_
            refine RO.opv (v' := .d (.bool false)) (opv_pick rfl rfl) rfl ?_
            refine RO.opv (v' := .d (.bool false)) (opv_move rfl) rfl ?_
            refine RO.off rfl ?_
            refine RO.off rfl ?_
            refine RO.off rfl ?_
            refine RO.off rfl ?_
            refine RO.off rfl ?_
            refine RO.opv (v' := .d (.bool false)) (opv_pick rfl rfl) rfl ?_
            refine RO.nil ?_
            refine Runs.condF rfl ?_
            refine Runs.skip ?_
            refine blockQ_normal ?_
            refine thenQ_normal ?_
            refine Runs.has [(0, .d (encL _)), (1, .d (.int _ _)), (2, .d (.int _ _)), (7, .d (.int _ _)), (52, .d (.int _ _)), (53, .d (.int _ _))] ⟨rfl, rfl, rfl, rfl, rfl, rfl, trivial⟩ ?_
            refine Runs.region ?_
            refine RO.opv (v' := .d (.int _ _)) (opv_bin rfl rfl rfl) rfl ?_
            refine RO.opv (v' := .d (.int _ _)) (opv_move rfl) rfl ?_
            refine RO.nil ?_
            refine thenQ_normal ?_
            refine ⟨i + 1, 0, (by rw [hK]; exact Nat.le_of_ble_eq_true rfl), ⟨rfl, rfl, rfl, rfl, rfl, trivial⟩, ⟨?_, trivial⟩, rfl, ?_, ?_⟩
            · refine int_eq ?_; rw [wrap64 (by omega) (by omega)]; omega
            · exact ⟨by omega, lt_split hi.2 (by simp [Lt.mbad, *])⟩
            · omega
        · try simp only [Z.a, Z.b, Z.c, Z.d, Z.e, Z.f, Z.g, Z.h, Z.i, Z.j, Z.k, Z.l, Z.m] at h8
          have hk2 : i = l.n := by omega
          refine RO.nil ?_
          refine Runs.seq ?_
          refine Runs.condF rfl ?_
          refine Runs.exit ?_
          refine thenQ_exit ?_
          refine thenQ_exit ?_
          refine blockQ_here ?_
          refine thenQ_normal ?_
          refine Runs.has [(7, .d (.int _ _))] ⟨rfl, trivial⟩ ?_
          refine Runs.rseq ?_
          refine RO.opv (v' := .d (.int _ _)) (opv_move rfl) rfl ?_
          refine RO.opv (v' := .d (.int _ _)) (opv_assign rfl) rfl ?_
          refine RO.nil ?_
          refine Runs.ret ?_
          refine EndQ.tmp (.inr rfl) rfl rfl 0 (by exact Nat.le_refl _) (by exact Nat.zero_le _) trivial ⟨?_, rfl⟩
          refine int_eq ?_; exact (Lt.meet_all hx hy (by rw [hk2] at hi; exact hi.2)).symm
theorem lbot_fn (l : Lt) (hl : l.Ok) : Fn Try.prog 18 [.d (encL l)] [] (.d (.int .i64 l.bottom)) [] := by
  have hn := hl.n16
  refine Does.run Try.func18 rfl Try.ntmps18 rfl fun K hK => ?_
  refine Runs.rseq ?_
  refine RO.opv (v' := .d (.int _ _)) (opv_assign rfl) rfl ?_
  refine RO.nil ?_
  refine Runs.rseq ?_
  refine RO.opv (v' := .d (.int _ _)) (opv_assign rfl) rfl ?_
  refine RO.nil ?_
  refine Runs.seq ?_
  refine Runs.rseq ?_
  refine RO.opv (v' := .d (encL _)) (opv_move rfl) rfl ?_
  refine RO.opv (v' := .d (.int _ _)) (opv_callF (llen_fn l) rfl rfl rfl trivial) rfl ?_
  refine RO.opv (v' := .d (.int _ _)) (opv_move rfl) rfl ?_
  refine RO.nil ?_
  refine Runs.block ?_
  refine Runs.loopC (X := Nat) (fun i => i ≤ l.n) (fun i => l.n - i) [(0, .d (encL _)), (2, .d (.int _ _)), (6, .d (.int _ _))] (fun i => [(3, .d (.int .i64 (l.bots i))), (7, .d (.int .i64 (i : Nat)))]) [] (fun i => []) (0) ⟨rfl, rfl, rfl, trivial⟩ ⟨rfl, rfl, trivial⟩ rfl (by omega) fun i hi => ?_
  refine Runs.rseq ?_
  refine RO.opc (opv_bin rfl rfl rfl) (fun h1 => ?_) (fun h1 => ?_)
  · try simp only [Z.a, Z.b, Z.c, Z.d, Z.e, Z.f, Z.g, Z.h, Z.i, Z.j, Z.k, Z.l, Z.m] at h1
    have hk : i < l.n := by omega
    refine RO.nil ?_
    refine Runs.seq ?_
    refine Runs.condT rfl ?_
    refine Runs.skip ?_
    refine thenQ_normal ?_
    refine Runs.has [(0, .d (encL _)), (2, .d (.int _ _)), (3, .d (.int _ _)), (6, .d (.int _ _)), (7, .d (.int _ _))] ⟨rfl, rfl, rfl, rfl, rfl, trivial⟩ ?_
    refine Runs.seq ?_
    refine Runs.block ?_
    refine Runs.rseq ?_
    refine RO.opv (v' := .d (.int _ _)) (opv_move rfl) rfl ?_
    refine RO.opv (v' := .d (.int _ _)) (opv_assign rfl) rfl ?_
    refine RO.nil ?_
    refine Runs.has [(0, .d (encL _)), (2, .d (.int _ _)), (3, .d (.int _ _)), (4, .d (.int _ _)), (6, .d (.int _ _)), (7, .d (.int _ _))] ⟨rfl, rfl, rfl, rfl, rfl, rfl, trivial⟩ ?_
    refine Runs.rseq ?_
    refine RO.opv (v' := .d (.int _ _)) (opv_move rfl) rfl ?_
    refine RO.opv (v' := .d (.bool _)) (opv_bin rfl rfl rfl) rfl ?_
    refine RO.opc (opv_move rfl) (fun h2 => ?_) (fun h2 => ?_)
    · try simp only [Z.a, Z.b, Z.c, Z.d, Z.e, Z.f, Z.g, Z.h, Z.i, Z.j, Z.k, Z.l, Z.m] at h2
      refine RO.off rfl ?_
      refine RO.off rfl ?_
      refine RO.off rfl ?_
      refine RO.off rfl ?_
      refine RO.opv (v' := .d (.bool true)) (opv_pick rfl rfl) rfl ?_
      refine RO.nil ?_
      refine Runs.condT rfl ?_
      refine Runs.has [(0, .d (encL _)), (2, .d (.int _ _)), (3, .d (.int _ _)), (4, .d (.int _ _)), (6, .d (.int _ _)), (7, .d (.int _ _))] ⟨rfl, rfl, rfl, rfl, rfl, rfl, trivial⟩ ?_
      refine Runs.region ?_
      refine RO.opv (v' := .d (.int _ _)) (opv_move rfl) rfl ?_
      refine RO.opv (v' := .d (.int _ _)) (opv_assign rfl) rfl ?_
      refine RO.nil ?_
      refine blockQ_normal ?_
      refine thenQ_normal ?_
      refine Runs.has [(0, .d (encL _)), (2, .d (.int _ _)), (3, .d (.int _ _)), (6, .d (.int _ _)), (7, .d (.int _ _))] ⟨rfl, rfl, rfl, rfl, rfl, trivial⟩ ?_
      refine Runs.region ?_
      refine RO.opv (v' := .d (.int _ _)) (opv_bin rfl rfl rfl) rfl ?_
      refine RO.opv (v' := .d (.int _ _)) (opv_move rfl) rfl ?_
      refine RO.nil ?_
      refine thenQ_normal ?_
      refine ⟨i + 1, 0, (by rw [hK]; exact Nat.le_of_ble_eq_true rfl), ⟨rfl, rfl, rfl, trivial⟩, ⟨?_, ?_, trivial⟩, rfl, ?_, ?_⟩
      · refine int_eq ?_; rw [Lt.bots_succ]; simp [Lt.bstep, *]
      · refine int_eq ?_; rw [wrap64 (by omega) (by omega)]; omega
      · omega
      · omega
    · try simp only [Z.a, Z.b, Z.c, Z.d, Z.e, Z.f, Z.g, Z.h, Z.i, Z.j, Z.k, Z.l, Z.m] at h2
      refine RO.opgv (v' := .d (encL _)) rfl (opv_move rfl) rfl ?_
      refine RO.opgv (v' := .d (.int _ _)) rfl (opv_move rfl) rfl ?_
      refine RO.opgv (v' := .d (.int _ _)) rfl (opv_move rfl) rfl ?_
      refine RO.opgv (v' := .d (.bool _)) rfl (opv_callF (leq_fn l hl _ _) rfl rfl rfl trivial) rfl ?_
      refine RO.opc (opv_pick rfl rfl) (fun h3 => ?_) (fun h3 => ?_)
      · try simp only [Z.a, Z.b, Z.c, Z.d, Z.e, Z.f, Z.g, Z.h, Z.i, Z.j, Z.k, Z.l, Z.m] at h3
        refine RO.nil ?_
        refine Runs.condT rfl ?_
        refine Runs.has [(0, .d (encL _)), (2, .d (.int _ _)), (3, .d (.int _ _)), (4, .d (.int _ _)), (6, .d (.int _ _)), (7, .d (.int _ _))] ⟨rfl, rfl, rfl, rfl, rfl, rfl, trivial⟩ ?_
        refine Runs.region ?_
        refine RO.opv (v' := .d (.int _ _)) (opv_move rfl) rfl ?_
        refine RO.opv (v' := .d (.int _ _)) (opv_assign rfl) rfl ?_
        refine RO.nil ?_
        refine blockQ_normal ?_
        refine thenQ_normal ?_
        refine Runs.has [(0, .d (encL _)), (2, .d (.int _ _)), (3, .d (.int _ _)), (6, .d (.int _ _)), (7, .d (.int _ _))] ⟨rfl, rfl, rfl, rfl, rfl, trivial⟩ ?_
        refine Runs.region ?_
        refine RO.opv (v' := .d (.int _ _)) (opv_bin rfl rfl rfl) rfl ?_
        refine RO.opv (v' := .d (.int _ _)) (opv_move rfl) rfl ?_
        refine RO.nil ?_
        refine thenQ_normal ?_
        refine ⟨i + 1, 0, (by rw [hK]; exact Nat.le_of_ble_eq_true rfl), ⟨rfl, rfl, rfl, trivial⟩, ⟨?_, ?_, trivial⟩, rfl, ?_, ?_⟩
        · refine int_eq ?_; rw [Lt.bots_succ]; simp [Lt.bstep, *]
        · refine int_eq ?_; rw [wrap64 (by omega) (by omega)]; omega
        · omega
        · omega
      · try simp only [Z.a, Z.b, Z.c, Z.d, Z.e, Z.f, Z.g, Z.h, Z.i, Z.j, Z.k, Z.l, Z.m] at h3
        refine RO.nil ?_
        refine Runs.condF rfl ?_
        refine Runs.skip ?_
        refine blockQ_normal ?_
        refine thenQ_normal ?_
        refine Runs.has [(0, .d (encL _)), (2, .d (.int _ _)), (3, .d (.int _ _)), (6, .d (.int _ _)), (7, .d (.int _ _))] ⟨rfl, rfl, rfl, rfl, rfl, trivial⟩ ?_
        refine Runs.region ?_
        refine RO.opv (v' := .d (.int _ _)) (opv_bin rfl rfl rfl) rfl ?_
        refine RO.opv (v' := .d (.int _ _)) (opv_move rfl) rfl ?_
        refine RO.nil ?_
        refine thenQ_normal ?_
        refine ⟨i + 1, 0, (by rw [hK]; exact Nat.le_of_ble_eq_true rfl), ⟨rfl, rfl, rfl, trivial⟩, ⟨?_, ?_, trivial⟩, rfl, ?_, ?_⟩
        · refine int_eq ?_; rw [Lt.bots_succ]; simp [Lt.bstep, *]
        · refine int_eq ?_; rw [wrap64 (by omega) (by omega)]; omega
        · omega
        · omega
  · try simp only [Z.a, Z.b, Z.c, Z.d, Z.e, Z.f, Z.g, Z.h, Z.i, Z.j, Z.k, Z.l, Z.m] at h1
    have hk : i = l.n := by omega
    refine RO.nil ?_
    refine Runs.seq ?_
    refine Runs.condF rfl ?_
    refine Runs.exit ?_
    refine thenQ_exit ?_
    refine thenQ_exit ?_
    refine blockQ_here ?_
    refine thenQ_normal ?_
    refine Runs.has [(2, .d (.int _ _)), (3, .d (.int _ _))] ⟨rfl, rfl, trivial⟩ ?_
    refine Runs.rseq ?_
    refine RO.opv (v' := .d (.int _ _)) (opv_move rfl) rfl ?_
    refine RO.opv (v' := .d (.int _ _)) (opv_assign rfl) rfl ?_
    refine RO.nil ?_
    refine Runs.ret ?_
    refine EndQ.tmp (.inr rfl) rfl rfl 0 (by exact Nat.le_refl _) (by exact Nat.zero_le _) trivial ⟨?_, rfl⟩
    refine int_eq ?_; rw [hk]; rfl
theorem ltop_fn (l : Lt) (hl : l.Ok) : Fn Try.prog 51 [.d (encL l)] [] (.d (.int .i64 l.top)) [] := by
  have hn := hl.n16
  refine Does.run Try.func51 rfl Try.ntmps51 rfl fun K hK => ?_
  refine Runs.rseq ?_
  refine RO.opv (v' := .d (.int _ _)) (opv_assign rfl) rfl ?_
  refine RO.nil ?_
  refine Runs.rseq ?_
  refine RO.opv (v' := .d (.int _ _)) (opv_assign rfl) rfl ?_
  refine RO.nil ?_
  refine Runs.seq ?_
  refine Runs.rseq ?_
  refine RO.opv (v' := .d (encL _)) (opv_move rfl) rfl ?_
  refine RO.opv (v' := .d (.int _ _)) (opv_callF (llen_fn l) rfl rfl rfl trivial) rfl ?_
  refine RO.opv (v' := .d (.int _ _)) (opv_move rfl) rfl ?_
  refine RO.nil ?_
  refine Runs.block ?_
  refine Runs.loopC (X := Nat) (fun i => i ≤ l.n) (fun i => l.n - i) [(0, .d (encL _)), (2, .d (.int _ _)), (6, .d (.int _ _))] (fun i => [(3, .d (.int .i64 (l.tops i))), (7, .d (.int .i64 (i : Nat)))]) [] (fun i => []) (0) ⟨rfl, rfl, rfl, trivial⟩ ⟨rfl, rfl, trivial⟩ rfl (by omega) fun i hi => ?_
  refine Runs.rseq ?_
  refine RO.opc (opv_bin rfl rfl rfl) (fun h1 => ?_) (fun h1 => ?_)
  · try simp only [Z.a, Z.b, Z.c, Z.d, Z.e, Z.f, Z.g, Z.h, Z.i, Z.j, Z.k, Z.l, Z.m] at h1
    have hk : i < l.n := by omega
    refine RO.nil ?_
    refine Runs.seq ?_
    refine Runs.condT rfl ?_
    refine Runs.skip ?_
    refine thenQ_normal ?_
    refine Runs.has [(0, .d (encL _)), (2, .d (.int _ _)), (3, .d (.int _ _)), (6, .d (.int _ _)), (7, .d (.int _ _))] ⟨rfl, rfl, rfl, rfl, rfl, trivial⟩ ?_
    refine Runs.seq ?_
    refine Runs.block ?_
    refine Runs.rseq ?_
    refine RO.opv (v' := .d (.int _ _)) (opv_move rfl) rfl ?_
    refine RO.opv (v' := .d (.int _ _)) (opv_assign rfl) rfl ?_
    refine RO.nil ?_
    refine Runs.has [(0, .d (encL _)), (2, .d (.int _ _)), (3, .d (.int _ _)), (4, .d (.int _ _)), (6, .d (.int _ _)), (7, .d (.int _ _))] ⟨rfl, rfl, rfl, rfl, rfl, rfl, trivial⟩ ?_
    refine Runs.rseq ?_
    refine RO.opv (v' := .d (.int _ _)) (opv_move rfl) rfl ?_
    refine RO.opv (v' := .d (.bool _)) (opv_bin rfl rfl rfl) rfl ?_
    refine RO.opc (opv_move rfl) (fun h2 => ?_) (fun h2 => ?_)
    · try simp only [Z.a, Z.b, Z.c, Z.d, Z.e, Z.f, Z.g, Z.h, Z.i, Z.j, Z.k, Z.l, Z.m] at h2
      refine RO.off rfl ?_
      refine RO.off rfl ?_
      refine RO.off rfl ?_
      refine RO.off rfl ?_
      refine RO.opv (v' := .d (.bool true)) (opv_pick rfl rfl) rfl ?_
      refine RO.nil ?_
      refine Runs.condT rfl ?_
      refine Runs.has [(0, .d (encL _)), (2, .d (.int _ _)), (3, .d (.int _ _)), (4, .d (.int _ _)), (6, .d (.int _ _)), (7, .d (.int _ _))] ⟨rfl, rfl, rfl, rfl, rfl, rfl, trivial⟩ ?_
      refine Runs.region ?_
      refine RO.opv (v' := .d (.int _ _)) (opv_move rfl) rfl ?_
      refine RO.opv (v' := .d (.int _ _)) (opv_assign rfl) rfl ?_
      refine RO.nil ?_
      refine blockQ_normal ?_
      refine thenQ_normal ?_
      refine Runs.has [(0, .d (encL _)), (2, .d (.int _ _)), (3, .d (.int _ _)), (6, .d (.int _ _)), (7, .d (.int _ _))] ⟨rfl, rfl, rfl, rfl, rfl, trivial⟩ ?_
      refine Runs.region ?_
      refine RO.opv (v' := .d (.int _ _)) (opv_bin rfl rfl rfl) rfl ?_
      refine RO.opv (v' := .d (.int _ _)) (opv_move rfl) rfl ?_
      refine RO.nil ?_
      refine thenQ_normal ?_
      refine ⟨i + 1, 0, (by rw [hK]; exact Nat.le_of_ble_eq_true rfl), ⟨rfl, rfl, rfl, trivial⟩, ⟨?_, ?_, trivial⟩, rfl, ?_, ?_⟩
      · refine int_eq ?_; rw [Lt.tops_succ]; simp [Lt.tstep, *]
      · refine int_eq ?_; rw [wrap64 (by omega) (by omega)]; omega
      · omega
      · omega
    · try simp only [Z.a, Z.b, Z.c, Z.d, Z.e, Z.f, Z.g, Z.h, Z.i, Z.j, Z.k, Z.l, Z.m] at h2
      refine RO.opgv (v' := .d (encL _)) rfl (opv_move rfl) rfl ?_
      refine RO.opgv (v' := .d (.int _ _)) rfl (opv_move rfl) rfl ?_
      refine RO.opgv (v' := .d (.int _ _)) rfl (opv_move rfl) rfl ?_
      refine RO.opgv (v' := .d (.bool _)) rfl (opv_callF (leq_fn l hl _ _) rfl rfl rfl trivial) rfl ?_
      refine RO.opc (opv_pick rfl rfl) (fun h3 => ?_) (fun h3 => ?_)
      · try simp only [Z.a, Z.b, Z.c, Z.d, Z.e, Z.f, Z.g, Z.h, Z.i, Z.j, Z.k, Z.l, Z.m] at h3
        refine RO.nil ?_
        refine Runs.condT rfl ?_
        refine Runs.has [(0, .d (encL _)), (2, .d (.int _ _)), (3, .d (.int _ _)), (4, .d (.int _ _)), (6, .d (.int _ _)), (7, .d (.int _ _))] ⟨rfl, rfl, rfl, rfl, rfl, rfl, trivial⟩ ?_
        refine Runs.region ?_
        refine RO.opv (v' := .d (.int _ _)) (opv_move rfl) rfl ?_
        refine RO.opv (v' := .d (.int _ _)) (opv_assign rfl) rfl ?_
        refine RO.nil ?_
        refine blockQ_normal ?_
        refine thenQ_normal ?_
        refine Runs.has [(0, .d (encL _)), (2, .d (.int _ _)), (3, .d (.int _ _)), (6, .d (.int _ _)), (7, .d (.int _ _))] ⟨rfl, rfl, rfl, rfl, rfl, trivial⟩ ?_
        refine Runs.region ?_
        refine RO.opv (v' := .d (.int _ _)) (opv_bin rfl rfl rfl) rfl ?_
        refine RO.opv (v' := .d (.int _ _)) (opv_move rfl) rfl ?_
        refine RO.nil ?_
        refine thenQ_normal ?_
        refine ⟨i + 1, 0, (by rw [hK]; exact Nat.le_of_ble_eq_true rfl), ⟨rfl, rfl, rfl, trivial⟩, ⟨?_, ?_, trivial⟩, rfl, ?_, ?_⟩
        · refine int_eq ?_; rw [Lt.tops_succ]; simp [Lt.tstep, *]
        · refine int_eq ?_; rw [wrap64 (by omega) (by omega)]; omega
        · omega
        · omega
      · try simp only [Z.a, Z.b, Z.c, Z.d, Z.e, Z.f, Z.g, Z.h, Z.i, Z.j, Z.k, Z.l, Z.m] at h3
        refine RO.nil ?_
        refine Runs.condF rfl ?_
        refine Runs.skip ?_
        refine blockQ_normal ?_
        refine thenQ_normal ?_
        refine Runs.has [(0, .d (encL _)), (2, .d (.int _ _)), (3, .d (.int _ _)), (6, .d (.int _ _)), (7, .d (.int _ _))] ⟨rfl, rfl, rfl, rfl, rfl, trivial⟩ ?_
        refine Runs.region ?_
        refine RO.opv (v' := .d (.int _ _)) (opv_bin rfl rfl rfl) rfl ?_
        refine RO.opv (v' := .d (.int _ _)) (opv_move rfl) rfl ?_
        refine RO.nil ?_
        refine thenQ_normal ?_
        refine ⟨i + 1, 0, (by rw [hK]; exact Nat.le_of_ble_eq_true rfl), ⟨rfl, rfl, rfl, trivial⟩, ⟨?_, ?_, trivial⟩, rfl, ?_, ?_⟩
        · refine int_eq ?_; rw [Lt.tops_succ]; simp [Lt.tstep, *]
        · refine int_eq ?_; rw [wrap64 (by omega) (by omega)]; omega
        · omega
        · omega
  · try simp only [Z.a, Z.b, Z.c, Z.d, Z.e, Z.f, Z.g, Z.h, Z.i, Z.j, Z.k, Z.l, Z.m] at h1
    have hk : i = l.n := by omega
    refine RO.nil ?_
    refine Runs.seq ?_
    refine Runs.condF rfl ?_
    refine Runs.exit ?_
    refine thenQ_exit ?_
    refine thenQ_exit ?_
    refine blockQ_here ?_
    refine thenQ_normal ?_
    refine Runs.has [(2, .d (.int _ _)), (3, .d (.int _ _))] ⟨rfl, rfl, trivial⟩ ?_
    refine Runs.rseq ?_
    refine RO.opv (v' := .d (.int _ _)) (opv_move rfl) rfl ?_
    refine RO.opv (v' := .d (.int _ _)) (opv_assign rfl) rfl ?_
    refine RO.nil ?_
    refine Runs.ret ?_
    refine EndQ.tmp (.inr rfl) rfl rfl 0 (by exact Nat.le_refl _) (by exact Nat.zero_le _) trivial ⟨?_, rfl⟩
    refine int_eq ?_; rw [hk]; rfl
theorem close_fn (l : Lt) (hl : l.Ok) : Fn Try.prog 31 [.ref 0 0] [latO l] (.tup []) [latO l.close] := by
  have hn := hl.n16
  have hU := Lt.sum_top hl
  refine Does.run Try.func31 rfl Try.ntmps31 rfl fun K hK => ?_
  refine Runs.scopeC 0 (X := (Nat × Lt)) (fun x => x.2.Ok ∧ x.2.n = l.n ∧ closeF x.1 x.2 = l.close ∧ 2 ^ 20 - x.2.sum ≤ x.1) (fun x => 2 ^ 20 - x.2.sum) [(0, .ref 0 0)] (fun x => []) [] (fun x => [latO x.2]) (((2 ^ 20 : Nat), l)) ⟨rfl, trivial⟩ trivial rfl ⟨hl, rfl, rfl, Nat.sub_le _ _⟩ fun x hx => ?_
  obtain ⟨hxo, hxn, hxc, hxm⟩ := hx
  have hst := Lt.sum_top hxo
  refine Runs.rseq ?_
  refine RO.opv (v' := .ref 0 0) (opv_move rfl) rfl ?_
  refine RO.opv (v' := .ref 0 0) (opv_nilCheck_ref rfl rfl) rfl ?_
  refine RO.opv (v' := .ref 0 0) (opv_field_ref rfl rfl) rfl ?_
  refine RO.opv (v' := .d (.int _ _)) (opv_lref_ldn rfl rfl rfl rfl) rfl ?_
  refine RO.opv (v' := .d (.int _ _)) (opv_move rfl) rfl ?_
  refine RO.nil ?_
  refine Runs.block ?_
  refine Runs.loopC (X := Nat) (fun i => i ≤ x.2.n ∧ ∀ a b, a < i → b < x.2.n → x.2.stp a b = false) (fun i => x.2.n - i) [(0, .ref 0 0), (8, .d (.int _ _))] (fun i => [(9, .d (.int .i64 (i : Nat)))]) [_] (fun i => []) (0) ⟨rfl, rfl, trivial⟩ ⟨rfl, trivial⟩ rfl ⟨Nat.zero_le _, fun a b h => absurd h (Nat.not_lt_zero _)⟩ fun i hi => ?_
  refine Runs.rseq ?_
  refine RO.opc (opv_bin rfl rfl rfl) (fun h1 => ?_) (fun h1 => ?_)
  · try simp only [Z.a, Z.b, Z.c, Z.d, Z.e, Z.f, Z.g, Z.h, Z.i, Z.j, Z.k, Z.l, Z.m] at h1
    have hk : i < x.2.n := by omega
    refine RO.nil ?_
    refine Runs.seq ?_
    refine Runs.condT rfl ?_
    refine Runs.skip ?_
    refine thenQ_normal ?_
    refine Runs.has [(0, .ref 0 0), (8, .d (.int _ _)), (9, .d (.int _ _))] ⟨rfl, rfl, rfl, trivial⟩ ?_
    refine Runs.seq ?_
    refine Runs.block ?_
    refine Runs.rseq ?_
    refine RO.opv (v' := .d (.int _ _)) (opv_move rfl) rfl ?_
    refine RO.opv (v' := .d (.int _ _)) (opv_assign rfl) rfl ?_
    refine RO.nil ?_
    refine Runs.has [(0, .ref 0 0), (2, .d (.int _ _)), (8, .d (.int _ _)), (9, .d (.int _ _))] ⟨rfl, rfl, rfl, rfl, trivial⟩ ?_
    refine Runs.rseq ?_
    refine RO.opv (v' := .ref 0 0) (opv_move rfl) rfl ?_
    refine RO.opv (v' := .ref 0 0) (opv_nilCheck_ref rfl rfl) rfl ?_
    refine RO.opv (v' := .ref 0 0) (opv_field_ref rfl rfl) rfl ?_
    refine RO.opv (v' := .d (.int _ _)) (opv_lref_ldn rfl rfl rfl rfl) rfl ?_
    refine RO.opv (v' := .d (.int _ _)) (opv_move rfl) rfl ?_
    refine RO.nil ?_
    refine Runs.block ?_
    refine Runs.loopC (X := Nat) (fun j => j ≤ x.2.n ∧ ∀ b, b < j → x.2.stp i b = false) (fun j => x.2.n - j) [(0, .ref 0 0), (2, .d (.int _ _)), (8, .d (.int _ _)), (9, .d (.int _ _)), (15, .d (.int _ _))] (fun j => [(16, .d (.int .i64 (j : Nat)))]) [_] (fun j => []) (0) ⟨rfl, rfl, rfl, rfl, rfl, trivial⟩ ⟨rfl, trivial⟩ rfl ⟨Nat.zero_le _, fun b h => absurd h (Nat.not_lt_zero _)⟩ fun j hj => ?_
    refine Runs.rseq ?_
    refine RO.opc (opv_bin rfl rfl rfl) (fun h2 => ?_) (fun h2 => ?_)
    · try simp only [Z.a, Z.b, Z.c, Z.d, Z.e, Z.f, Z.g, Z.h, Z.i, Z.j, Z.k, Z.l, Z.m] at h2
      have hk2 : j < x.2.n := by omega
      refine RO.nil ?_
      refine Runs.seq ?_
      refine Runs.condT rfl ?_
      refine Runs.skip ?_
      refine thenQ_normal ?_
      refine Runs.has [(0, .ref 0 0), (2, .d (.int _ _)), (8, .d (.int _ _)), (9, .d (.int _ _)), (15, .d (.int _ _)), (16, .d (.int _ _))] ⟨rfl, rfl, rfl, rfl, rfl, rfl, trivial⟩ ?_
      refine Runs.seq ?_
      refine Runs.block ?_
      refine Runs.rseq ?_
      refine RO.opv (v' := .d (.int _ _)) (opv_move rfl) rfl ?_
      refine RO.opv (v' := .d (.int _ _)) (opv_assign rfl) rfl ?_
      refine RO.nil ?_
      refine Runs.has [(0, .ref 0 0), (2, .d (.int _ _)), (3, .d (.int _ _)), (8, .d (.int _ _)), (9, .d (.int _ _)), (15, .d (.int _ _)), (16, .d (.int _ _))] ⟨rfl, rfl, rfl, rfl, rfl, rfl, rfl, trivial⟩ ?_
      refine Runs.seq ?_
      refine Runs.drawn (by kernel_rfl) [] [false, false, false, false, false, false, false, false, false, false, false, false, false, false] [false, false, false, false, false, false, false, false, false, false, false, false, false, false] (by decide +kernel) ?_
      refine RD.opv (v' := .ref 0 0) (opv_move rfl) rfl ?_
      refine RD.opv (v' := .d (.int _ _)) (opv_move rfl) rfl ?_
      refine RD.opv (v' := .ref 0 0) (opv_nilCheck_ref rfl rfl) rfl ?_
      refine RD.opv (v' := .ref 0 1) (opv_field_ref rfl rfl) rfl ?_
      refine RD.opv (v' := .ref 0 _) (opv_lref_ixn rfl rfl rfl (by omega) rfl rfl) rfl ?_
      refine RD.opv (v' := .d (.int _ _)) (opv_lref_ld rfl rfl hxo (by omega) rfl rfl) rfl ?_
      refine RD.opv (v' := .ref 0 0) (opv_move rfl) rfl ?_
      refine RD.opv (v' := .d (.int _ _)) (opv_move rfl) rfl ?_
      refine RD.opv (v' := .ref 0 0) (opv_nilCheck_ref rfl rfl) rfl ?_
      refine RD.opv (v' := .ref 0 1) (opv_field_ref rfl rfl) rfl ?_
      refine RD.opv (v' := .ref 0 _) (opv_lref_ixn rfl rfl rfl (by omega) rfl rfl) rfl ?_
      refine RD.opv (v' := .d (.int _ _)) (opv_lref_ld rfl rfl hxo (by omega) rfl rfl) rfl ?_
      refine RD.opv (v' := .d (.int _ _)) (opv_bin rfl rfl (binD_or (sm64 (hxo.u _)) (sm64 (hxo.u _)))) rfl ?_
      refine RD.opv (v' := .d (.int _ _)) (opv_assign rfl) rfl ?_
      refine RD.nil ?_
      refine thenQ_normal ?_
      refine Runs.has [(0, .ref 0 0), (2, .d (.int _ _)), (3, .d (.int _ _)), (4, .d (.int _ _)), (8, .d (.int _ _)), (9, .d (.int _ _)), (15, .d (.int _ _)), (16, .d (.int _ _))] ⟨rfl, rfl, rfl, rfl, rfl, rfl, rfl, rfl, trivial⟩ ?_
      refine Runs.rseq ?_
      refine RO.opv (v' := .ref 0 0) (opv_move rfl) rfl ?_
      refine RO.opv (v' := .d (.int _ _)) (opv_move rfl) rfl ?_
      refine RO.opv (v' := .ref 0 0) (opv_nilCheck_ref rfl rfl) rfl ?_
      refine RO.opv (v' := .ref 0 1) (opv_field_ref rfl rfl) rfl ?_
      refine RO.opv (v' := .ref 0 _) (opv_lref_ixn rfl rfl rfl (by omega) rfl rfl) rfl ?_
      refine RO.opv (v' := .d (.int _ _)) (opv_lref_ld rfl rfl hxo (by omega) rfl rfl) rfl ?_
      refine RO.opv (v' := .d (.int _ _)) (opv_move rfl) rfl ?_
      refine RO.opv (v' := .d (.int _ _)) (opv_conv (r := ((j : Nat) : Int)) rfl ((wrapu (by omega) (by omega)).trans (by omega))) rfl ?_
      refine RO.opv (v' := .d (.int _ _)) (opv_shr rfl rfl (by omega)) rfl ?_
      refine RO.opv (v' := .d (.int _ _)) (opv_and1 rfl rfl (hxo.u _)) rfl ?_
      refine RO.opv (v' := .d (.bool _)) (opv_testbit rfl rfl) rfl ?_
      refine RO.opc (opv_move rfl) (fun h3 => ?_) (fun h3 => ?_)
      · try simp only [Z.a, Z.b, Z.c, Z.d, Z.e, Z.f, Z.g, Z.h, Z.i, Z.j, Z.k, Z.l, Z.m] at h3
        have ht := h3
        refine RO.opgv (v' := .d (.int _ _)) rfl (opv_move rfl) rfl ?_
        refine RO.opgv (v' := .ref 0 0) rfl (opv_move rfl) rfl ?_
        refine RO.opgv (v' := .d (.int _ _)) rfl (opv_move rfl) rfl ?_
        refine RO.opgv (v' := .ref 0 0) rfl (opv_nilCheck_ref rfl rfl) rfl ?_
        refine RO.opgv (v' := .ref 0 1) rfl (opv_field_ref rfl rfl) rfl ?_
        refine RO.opgv (v' := .ref 0 _) rfl (opv_lref_ixn rfl rfl rfl (by omega) rfl rfl) rfl ?_
        refine RO.opgv (v' := .d (.int _ _)) rfl (opv_lref_ld rfl rfl hxo (by omega) rfl rfl) rfl ?_
        refine RO.opgv (v' := .d (.bool _)) rfl (opv_bin rfl rfl rfl) rfl ?_
        refine RO.opc (opv_pick rfl rfl) (fun h4 => ?_) (fun h4 => ?_)
        · try simp only [Z.a, Z.b, Z.c, Z.d, Z.e, Z.f, Z.g, Z.h, Z.i, Z.j, Z.k, Z.l, Z.m] at h4
          have he := h4
          refine RO.nil ?_
          refine Runs.condT rfl ?_
          refine Runs.has [(0, .ref 0 0), (2, .d (.int _ _)), (4, .d (.int _ _)), (8, .d (.int _ _)), (9, .d (.int _ _)), (15, .d (.int _ _)), (16, .d (.int _ _))] ⟨rfl, rfl, rfl, rfl, rfl, rfl, rfl, trivial⟩ ?_
          refine Runs.rseq ?_
          refine RO.opv (v' := .ref 0 0) (opv_move rfl) rfl ?_
          refine RO.opv (v' := .d (.int _ _)) (opv_move rfl) rfl ?_
          refine RO.opv (v' := .d (.int _ _)) (opv_move rfl) rfl ?_
          refine RO.opv (v' := .ref 0 0) (opv_nilCheck_ref rfl rfl) rfl ?_
          refine RO.opv (v' := .ref 0 1) (opv_field_ref rfl rfl) rfl ?_
          refine RO.opv (v' := .ref 0 _) (opv_lref_ixn rfl rfl rfl (by omega) rfl rfl) rfl ?_
          refine RO.op0n (O' := [_]) (opv_lref_st rfl rfl rfl hxo (by omega) rfl) rfl ?_
          refine RO.nil ?_
          refine Runs.goto ?_
          refine blockQ_goto ?_
          refine thenQ_goto ?_
          refine thenQ_goto ?_
          refine blockQ_goto ?_
          refine blockQ_goto ?_
          refine thenQ_goto ?_
          refine thenQ_goto ?_
          refine blockQ_goto ?_
          refine scopeQ_goto ?_
          refine ⟨(x.1 - 1, x.2.put i (x.2.u i ||| x.2.u j)), 1, (by rw [hK]; exact Nat.le_of_ble_eq_true rfl), ⟨rfl, trivial⟩, trivial, rfl, ?_, ?_⟩
          · have hs := stp_yes ht he
            have hup := Lt.sum_up hxo hk hs
            have hpo := hxo.put (i := i) (v := x.2.u i ||| x.2.u j) (Lt.or_lt hxo i j)
            have htop := Lt.sum_top hpo
            obtain ⟨k, hk'⟩ : ∃ k, x.1 = k + 1 := ⟨x.1 - 1, by omega⟩
            refine ⟨hpo, hxn, ?_, ?_⟩
            · show closeF (x.1 - 1) _ = _
              rw [← hxc, hk', closeF_hit (Lt.nxt_hit hk hk2 hs hi.2 hj.2)]; rfl
            · show 2 ^ 20 - (x.2.put i (x.2.u i ||| x.2.u j)).sum ≤ x.1 - 1; omega
          · have hs := stp_yes ht he
            have hup := Lt.sum_up hxo hk hs
            have htop := Lt.sum_top (hxo.put (i := i) (v := x.2.u i ||| x.2.u j) (Lt.or_lt hxo i j))
            show 2 ^ 20 - (x.2.put i (x.2.u i ||| x.2.u j)).sum < _; omega
        · try simp only [Z.a, Z.b, Z.c, Z.d, Z.e, Z.f, Z.g, Z.h, Z.i, Z.j, Z.k, Z.l, Z.m] at h4
          have he := h4
          refine RO.nil ?_
          refine Runs.condF rfl ?_
          refine Runs.skip ?_
          refine blockQ_normal ?_
          refine thenQ_normal ?_
          refine Runs.has [(0, .ref 0 0), (2, .d (.int _ _)), (8, .d (.int _ _)), (9, .d (.int _ _)), (15, .d (.int _ _)), (16, .d (.int _ _))] ⟨rfl, rfl, rfl, rfl, rfl, rfl, trivial⟩ ?_
          refine Runs.region ?_
          refine RO.opv (v' := .d (.int _ _)) (opv_bin rfl rfl rfl) rfl ?_
          refine RO.opv (v' := .d (.int _ _)) (opv_move rfl) rfl ?_
          refine RO.nil ?_
          refine thenQ_normal ?_
          refine ⟨j + 1, 1, (by rw [hK]; exact Nat.le_of_ble_eq_true rfl), ⟨rfl, rfl, rfl, rfl, rfl, trivial⟩, ⟨?_, trivial⟩, rfl, ?_, ?_⟩
          · refine int_eq ?_; rw [wrap64 (by omega) (by omega)]; omega
          · exact ⟨by omega, lt_split hj.2 (stp_no2 he)⟩
          · omega
      · try simp only [Z.a, Z.b, Z.c, Z.d, Z.e, Z.f, Z.g, Z.h, Z.i, Z.j, Z.k, Z.l, Z.m] at h3
        have ht := h3
        refine RO.off rfl ?_
        refine RO.off rfl ?_
        refine RO.off rfl ?_
        refine RO.off rfl ?_
        refine RO.off rfl ?_
        refine RO.off rfl ?_
        refine RO.off rfl ?_
        refine RO.off rfl ?_
        refine RO.opv (v' := .d (.bool false)) (opv_pick rfl rfl) rfl ?_
        refine RO.nil ?_
        refine Runs.condF rfl ?_
        refine Runs.skip ?_
        refine blockQ_normal ?_
        refine thenQ_normal ?_
        refine Runs.has [(0, .ref 0 0), (2, .d (.int _ _)), (8, .d (.int _ _)), (9, .d (.int _ _)), (15, .d (.int _ _)), (16, .d (.int _ _))] ⟨rfl, rfl, rfl, rfl, rfl, rfl, trivial⟩ ?_
        refine Runs.region ?_
        refine RO.opv (v' := .d (.int _ _)) (opv_bin rfl rfl rfl) rfl ?_
        refine RO.opv (v' := .d (.int _ _)) (opv_move rfl) rfl ?_
        refine RO.nil ?_
        refine thenQ_normal ?_
        refine ⟨j + 1, 1, (by rw [hK]; exact Nat.le_of_ble_eq_true rfl), ⟨rfl, rfl, rfl, rfl, rfl, trivial⟩, ⟨?_, trivial⟩, rfl, ?_, ?_⟩
        · refine int_eq ?_; rw [wrap64 (by omega) (by omega)]; omega
        · exact ⟨by omega, lt_split hj.2 (stp_no1 ht)⟩
        · omega
    · try simp only [Z.a, Z.b, Z.c, Z.d, Z.e, Z.f, Z.g, Z.h, Z.i, Z.j, Z.k, Z.l, Z.m] at h2
      have hk2 : j = x.2.n := by omega
      refine RO.nil ?_
      refine Runs.seq ?_
      refine Runs.condF rfl ?_
      refine Runs.exit ?_
      refine thenQ_exit ?_
      refine thenQ_exit ?_
      refine blockQ_here ?_
      refine blockQ_normal ?_
      refine thenQ_normal ?_
      refine Runs.has [(0, .ref 0 0), (8, .d (.int _ _)), (9, .d (.int _ _))] ⟨rfl, rfl, rfl, trivial⟩ ?_
      refine Runs.region ?_
      refine RO.opv (v' := .d (.int _ _)) (opv_bin rfl rfl rfl) rfl ?_
      refine RO.opv (v' := .d (.int _ _)) (opv_move rfl) rfl ?_
      refine RO.nil ?_
      refine thenQ_normal ?_
      refine ⟨i + 1, 1, (by rw [hK]; exact Nat.le_of_ble_eq_true rfl), ⟨rfl, rfl, trivial⟩, ⟨?_, trivial⟩, rfl, ?_, ?_⟩
      · refine int_eq ?_; rw [wrap64 (by omega) (by omega)]; omega
      · refine ⟨by omega, fun a b ha hb => ?_⟩
        rcases Nat.lt_succ_iff_lt_or_eq.1 ha with h' | h'
        · exact hi.2 a b h' hb
        · rw [h']; exact hj.2 b (by omega)
      · omega
  · try simp only [Z.a, Z.b, Z.c, Z.d, Z.e, Z.f, Z.g, Z.h, Z.i, Z.j, Z.k, Z.l, Z.m] at h1
    have hk : i = x.2.n := by omega
    refine RO.nil ?_
    refine Runs.seq ?_
    refine Runs.condF rfl ?_
    refine Runs.exit ?_
    refine thenQ_exit ?_
    refine thenQ_exit ?_
    refine blockQ_here ?_
    refine scopeQ_normal ?_
    refine EndQ.none (.inl rfl) rfl 1 (by exact Nat.le_refl _) (by simp) ⟨rfl, ?_⟩
    · rw [← hxc, closeF_none (Lt.nxt_none (by rw [hk] at hi; exact hi.2))]; rfl
theorem lnew_fn (n : Int) (ps : List (Int × Int)) (hp : ps.length ≤ 2 ^ 30) : Fn Try.prog 11 [.d (.int .i64 n), .d (.list (encPs ps))] [] (.tup [.d (encOL (newL n ps).1), .d (.int .i64 (newL n ps).2)]) [] := by
  refine Does.run Try.func11 rfl Try.ntmps11 rfl fun K hK => ?_
  refine Runs.rseq ?_
  refine RO.opv (v' := .d .nilp) (opv_assign rfl) rfl ?_
  refine RO.opv (v' := .d (.int _ _)) (opv_assign rfl) rfl ?_
  refine RO.nil ?_
  refine Runs.seq ?_
  refine Runs.rseq ?_
  refine RO.opv (v' := .d (.int _ _)) (opv_move rfl) rfl ?_
  refine RO.opv (v' := .d (.bool _)) (opv_bin rfl rfl rfl) rfl ?_
  refine RO.opc (opv_move rfl) (fun h1 => ?_) (fun h1 => ?_)
  · try simp only [Z.a, Z.b, Z.c, Z.d, Z.e, Z.f, Z.g, Z.h, Z.i, Z.j, Z.k, Z.l, Z.m] at h1
    have hn1 := h1
    refine RO.off rfl ?_
    refine RO.off rfl ?_
    refine RO.opv (v' := .d (.bool true)) (opv_pick rfl rfl) rfl ?_
    refine RO.nil ?_
    refine Runs.condT rfl ?_
    refine Runs.has [(0, .d (.int _ _)), (1, .d (.list (encPs _))), (4, .d .nilp), (5, .d (.int _ _))] ⟨rfl, rfl, rfl, rfl, trivial⟩ ?_
    refine Runs.rseq ?_
    refine RO.opv (v' := .d .nilp) (opv_assign rfl) rfl ?_
    refine RO.opv (v' := .d (.int _ _)) (opv_assign rfl) rfl ?_
    refine RO.nil ?_
    refine Runs.ret ?_
    refine thenQ_ret ?_
    refine EndQ.tmps2 (.inr rfl) rfl rfl rfl 0 (by exact Nat.le_refl _) (by exact Nat.zero_le _) ⟨trivial, trivial, trivial⟩ ⟨?_, rfl⟩
    rw [newL_no (.inl hn1)]; rfl
  · try simp only [Z.a, Z.b, Z.c, Z.d, Z.e, Z.f, Z.g, Z.h, Z.i, Z.j, Z.k, Z.l, Z.m] at h1
    have hn1 := h1
    refine RO.opgv (v' := .d (.int _ _)) rfl (opv_move rfl) rfl ?_
    refine RO.opgv (v' := .d (.bool _)) rfl (opv_bin rfl rfl rfl) rfl ?_
    refine RO.opc (opv_pick rfl rfl) (fun h2 => ?_) (fun h2 => ?_)
    · try simp only [Z.a, Z.b, Z.c, Z.d, Z.e, Z.f, Z.g, Z.h, Z.i, Z.j, Z.k, Z.l, Z.m] at h2
      have hn2 := h2
      skip
      refine RO.nil ?_
      refine Runs.condT rfl ?_
      refine Runs.has [(0, .d (.int _ _)), (1, .d (.list (encPs _))), (4, .d .nilp), (5, .d (.int _ _))] ⟨rfl, rfl, rfl, rfl, trivial⟩ ?_
      refine Runs.rseq ?_
      refine RO.opv (v' := .d .nilp) (opv_assign rfl) rfl ?_
      refine RO.opv (v' := .d (.int _ _)) (opv_assign rfl) rfl ?_
      refine RO.nil ?_
      refine Runs.ret ?_
      refine thenQ_ret ?_
      refine EndQ.tmps2 (.inr rfl) rfl rfl rfl 0 (by exact Nat.le_refl _) (by exact Nat.zero_le _) ⟨trivial, trivial, trivial⟩ ⟨?_, rfl⟩
      rw [newL_no (.inr hn2)]; rfl
    · try simp only [Z.a, Z.b, Z.c, Z.d, Z.e, Z.f, Z.g, Z.h, Z.i, Z.j, Z.k, Z.l, Z.m] at h2
      have hn2 := h2
      obtain ⟨m, rfl⟩ : ∃ m : Nat, n = (m : Int) := ⟨n.toNat, by omega⟩
      refine RO.nil ?_
      refine Runs.condF rfl ?_
      refine Runs.skip ?_
      refine thenQ_normal ?_
      refine Runs.has [(0, .d (.int _ _)), (1, .d (.list (encPs _))), (4, .d .nilp), (5, .d (.int _ _))] ⟨rfl, rfl, rfl, rfl, trivial⟩ ?_
      refine Runs.rseq ?_
      refine RO.opv (v' := .d (.int _ _)) (opv_move rfl) rfl ?_
      refine RO.opv (v' := .d (.agg _)) (opv_build rfl) rfl ?_
      refine RO.opn (v' := .ref 0 0) (O' := [_]) (opv_box rfl rfl) rfl rfl ?_
      refine RO.opv (v' := .ref 0 0) (opv_assign rfl) rfl ?_
      refine RO.nil ?_
      refine Runs.has [(0, .d (.int _ _)), (1, .d (.list (encPs _))), (4, .d .nilp), (5, .d (.int _ _)), (6, .ref 0 0)] ⟨rfl, rfl, rfl, rfl, rfl, trivial⟩ ?_
      refine Runs.seq ?_
      refine Runs.rseq ?_
      refine RO.opv (v' := .d (.int _ _)) (opv_move rfl) rfl ?_
      refine RO.opv (v' := .d (.int _ _)) (opv_move rfl) rfl ?_
      refine RO.nil ?_
      refine Runs.block ?_
      refine Runs.loopC (X := Nat) (fun i => i ≤ m) (fun i => m - i) [(0, .d (.int _ _)), (1, .d (.list (encPs _))), (4, .d .nilp), (5, .d (.int _ _)), (6, .ref 0 0), (21, .d (.int _ _))] (fun i => [(22, .d (.int .i64 (i : Nat)))]) [] (fun i => [latO (lt0 m i)]) (0) ⟨rfl, rfl, rfl, rfl, rfl, rfl, trivial⟩ ⟨rfl, trivial⟩ rfl (by omega) fun i hi => ?_
      refine Runs.rseq ?_
      refine RO.opc (opv_bin rfl rfl rfl) (fun h3 => ?_) (fun h3 => ?_)
      · try simp only [Z.a, Z.b, Z.c, Z.d, Z.e, Z.f, Z.g, Z.h, Z.i, Z.j, Z.k, Z.l, Z.m] at h3
        have hk0 : i < m := by omega
        refine RO.nil ?_
        refine Runs.seq ?_
        refine Runs.condT rfl ?_
        refine Runs.skip ?_
        refine thenQ_normal ?_
        refine Runs.has [(0, .d (.int _ _)), (1, .d (.list (encPs _))), (4, .d .nilp), (5, .d (.int _ _)), (6, .ref 0 0), (21, .d (.int _ _)), (22, .d (.int _ _))] ⟨rfl, rfl, rfl, rfl, rfl, rfl, rfl, trivial⟩ ?_
        refine Runs.seq ?_
        refine Runs.block ?_
        refine Runs.rseq ?_
        refine RO.opv (v' := .d (.int _ _)) (opv_move rfl) rfl ?_
        refine RO.opv (v' := .d (.int _ _)) (opv_assign rfl) rfl ?_
        refine RO.nil ?_
        refine Runs.has [(0, .d (.int _ _)), (1, .d (.list (encPs _))), (4, .d .nilp), (5, .d (.int _ _)), (6, .ref 0 0), (7, .d (.int _ _)), (21, .d (.int _ _)), (22, .d (.int _ _))] ⟨rfl, rfl, rfl, rfl, rfl, rfl, rfl, rfl, trivial⟩ ?_
        refine Runs.region ?_
        refine RO.opv (v' := .ref 0 0) (opv_move rfl) rfl ?_
        refine RO.opv (v' := .d (.int _ _)) (opv_move rfl) rfl ?_
        refine RO.opv (v' := .d (.int _ _)) (opv_move rfl) rfl ?_
        refine RO.opv (v' := .d (.int _ _)) (opv_conv (r := ((i : Nat) : Int)) rfl ((wrapu (by omega) (by omega)).trans (by omega))) rfl ?_
        refine RO.opv (v' := .d (.int _ _)) (opv_shl1 rfl rfl (by omega)) rfl ?_
        refine RO.opv (v' := .ref 0 0) (opv_nilCheck_ref rfl rfl) rfl ?_
        refine RO.opv (v' := .ref 0 1) (opv_field_ref rfl rfl) rfl ?_
        refine RO.opv (v' := .ref 0 _) (opv_lref_ixn rfl rfl rfl (by omega) rfl rfl) rfl ?_
        refine RO.op0n (O' := [_]) (opv_lref_st rfl rfl rfl (lt0_ok (by omega)) (by omega) rfl) rfl ?_
        refine RO.nil ?_
        refine blockQ_normal ?_
        refine thenQ_normal ?_
        refine Runs.has [(0, .d (.int _ _)), (1, .d (.list (encPs _))), (4, .d .nilp), (5, .d (.int _ _)), (6, .ref 0 0), (21, .d (.int _ _)), (22, .d (.int _ _))] ⟨rfl, rfl, rfl, rfl, rfl, rfl, rfl, trivial⟩ ?_
        refine Runs.region ?_
        refine RO.opv (v' := .d (.int _ _)) (opv_bin rfl rfl rfl) rfl ?_
        refine RO.opv (v' := .d (.int _ _)) (opv_move rfl) rfl ?_
        refine RO.nil ?_
        refine thenQ_normal ?_
        refine ⟨i + 1, 1, (by rw [hK]; exact Nat.le_of_ble_eq_true rfl), ⟨rfl, rfl, rfl, rfl, rfl, rfl, trivial⟩, ⟨?_, trivial⟩, ?_, ?_, ?_⟩
        · refine int_eq ?_; rw [wrap64 (by omega) (by omega)]; omega
        · show [latO ((lt0 m i).put i (2 ^ i))] = [latO (lt0 m (i + 1))]; rw [lt0_put (by omega)]
        · omega
        · omega
      · try simp only [Z.a, Z.b, Z.c, Z.d, Z.e, Z.f, Z.g, Z.h, Z.i, Z.j, Z.k, Z.l, Z.m] at h3
        have hk0 : i = m := by omega
        refine RO.nil ?_
        refine Runs.seq ?_
        refine Runs.condF rfl ?_
        refine Runs.exit ?_
        refine thenQ_exit ?_
        refine thenQ_exit ?_
        refine blockQ_here ?_
        refine thenQ_normal ?_
        refine Runs.has [(0, .d (.int _ _)), (1, .d (.list (encPs _))), (4, .d .nilp), (5, .d (.int _ _)), (6, .ref 0 0)] ⟨rfl, rfl, rfl, rfl, rfl, trivial⟩ ?_
        refine Runs.seq ?_
        refine Runs.rseq ?_
        refine RO.opv (v' := .d (.list (encPs _))) (opv_move rfl) rfl ?_
        refine RO.opv (v' := .d (.int _ _)) (opv_len_pairs rfl) rfl ?_
        refine RO.opv (v' := .d (.int _ _)) (opv_move rfl) rfl ?_
        refine RO.nil ?_
        refine Runs.block ?_
        rw [hk0]
        refine Runs.loopC (X := (Nat × Lt)) (fun x => x.1 ≤ ps.length ∧ (lt0 m m).adds (ps.take x.1) = some x.2) (fun x => ps.length - x.1) [(0, .d (.int _ _)), (6, .ref 0 0), (34, .d (.list (encPs _))), (35, .d (.int _ _))] (fun x => [(36, .d (.int .i64 (x.1 : Nat)))]) [] (fun x => [latO x.2]) (((0 : Nat), lt0 m m)) ⟨rfl, rfl, rfl, rfl, trivial⟩ ⟨rfl, trivial⟩ rfl ⟨Nat.zero_le _, rfl⟩ fun x hx => ?_
        obtain ⟨hxo, hxn⟩ := Lt.adds_ok _ _ _ (lt0_ok (by omega)) hx.2
        have hxn : x.2.n = m := hxn
        refine Runs.rseq ?_
        refine RO.opc (opv_bin rfl rfl rfl) (fun h4 => ?_) (fun h4 => ?_)
        · try simp only [Z.a, Z.b, Z.c, Z.d, Z.e, Z.f, Z.g, Z.h, Z.i, Z.j, Z.k, Z.l, Z.m] at h4
          have hk : x.1 < ps.length := by omega
          refine RO.nil ?_
          refine Runs.seq ?_
          refine Runs.condT rfl ?_
          refine Runs.skip ?_
          refine thenQ_normal ?_
          refine Runs.has [(0, .d (.int _ _)), (6, .ref 0 0), (34, .d (.list (encPs _))), (35, .d (.int _ _)), (36, .d (.int _ _))] ⟨rfl, rfl, rfl, rfl, rfl, trivial⟩ ?_
          refine Runs.seq ?_
          refine Runs.block ?_
          refine Runs.rseq ?_
          refine RO.opv (v' := .d (.ptr _)) (opv_index_pairs rfl rfl (by omega)) rfl ?_
          refine RO.opv (v' := .d (.agg _)) (opv_load_ptr rfl rfl) rfl ?_
          refine RO.opn (v' := .ref 1 0) (O' := [_, _]) (opv_alloc) rfl rfl ?_
          refine RO.op0n (O' := [_, _]) (opv_store_ref rfl rfl rfl rfl rfl (Nat.le_of_ble_eq_true rfl) rfl) rfl ?_
          refine RO.nil ?_
          refine Runs.has [(0, .d (.int _ _)), (6, .ref 0 0), (9, .ref 1 0), (34, .d (.list (encPs _))), (35, .d (.int _ _)), (36, .d (.int _ _))] ⟨rfl, rfl, rfl, rfl, rfl, rfl, trivial⟩ ?_
          refine Runs.seq ?_
          refine Runs.rseq ?_
          refine RO.opv (v' := .ref 0 0) (opv_move rfl) rfl ?_
          refine RO.opv (v' := .ref 1 0) (opv_index_aref (i := 0) rfl rfl rfl (by decide) (by decide)) rfl ?_
          refine RO.opv (v' := .d (.int _ _)) (opv_load_ref rfl rfl rfl) rfl ?_
          refine RO.opn (v' := .d (.bool _)) (O' := [_, _]) (opv_callP 1 (isr_fn x.2 hxo _) rfl rfl (Nat.le_of_ble_eq_true rfl) rfl (AV.bds_of_B _ rfl)) rfl rfl ?_
          refine RO.opv (v' := .d (.bool _)) (opv_not rfl rfl) rfl ?_
          refine RO.opc (opv_move rfl) (fun h5 => ?_) (fun h5 => ?_)
          · try simp only [Z.a, Z.b, Z.c, Z.d, Z.e, Z.f, Z.g, Z.h, Z.i, Z.j, Z.k, Z.l, Z.m] at h5
            have hq1 := h5
            refine RO.off rfl ?_
            refine RO.off rfl ?_
            refine RO.off rfl ?_
            refine RO.off rfl ?_
            refine RO.off rfl ?_
            refine RO.opv (v' := .d (.bool true)) (opv_pick rfl rfl) rfl ?_
            refine RO.nil ?_
            refine Runs.condT rfl ?_
            refine Runs.has [(0, .d (.int _ _)), (6, .ref 0 0), (9, .ref 1 0), (34, .d (.list (encPs _))), (35, .d (.int _ _)), (36, .d (.int _ _))] ⟨rfl, rfl, rfl, rfl, rfl, rfl, trivial⟩ ?_
            refine Runs.rseq ?_
            refine RO.opv (v' := .d .nilp) (opv_assign rfl) rfl ?_
            refine RO.opv (v' := .d (.int _ _)) (opv_assign rfl) rfl ?_
            refine RO.nil ?_
            refine Runs.ret ?_
            refine thenQ_ret ?_
            refine blockQ_ret ?_
            refine thenQ_ret ?_
            refine thenQ_ret ?_
            refine blockQ_ret ?_
            refine thenQ_ret ?_
            refine EndQ.tmps2 (.inr rfl) rfl rfl rfl 0 (by exact Nat.le_refl _) (by exact Nat.zero_le _) ⟨trivial, trivial, trivial⟩ ⟨?_, rfl⟩
            rw [newL_add (by omega) (by omega) (by rw [← List.take_append_drop x.1 ps, List.drop_eq_getElem_cons hk]; exact Lt.adds_none _ _ _ hx.2 (by simp [*]))]; rfl
          · try simp only [Z.a, Z.b, Z.c, Z.d, Z.e, Z.f, Z.g, Z.h, Z.i, Z.j, Z.k, Z.l, Z.m] at h5
            have hq1 := h5
            obtain ⟨hp0, hp1⟩ := Lt.is_iff.1 h5
            refine RO.opgv (v' := .ref 0 0) rfl (opv_move rfl) rfl ?_
            refine RO.opgv (v' := .ref 1 1) rfl (opv_index_aref (i := 1) rfl rfl rfl (by decide) (by decide)) rfl ?_
            refine RO.opgv (v' := .d (.int _ _)) rfl (opv_load_ref rfl rfl rfl) rfl ?_
            refine RO.opgn (v' := .d (.bool _)) (O' := [_, _]) rfl (opv_callP 1 (isr_fn x.2 hxo _) rfl rfl (Nat.le_of_ble_eq_true rfl) rfl (AV.bds_of_B _ rfl)) rfl rfl ?_
            refine RO.opgv (v' := .d (.bool _)) rfl (opv_not rfl rfl) rfl ?_
            refine RO.opc (opv_pick rfl rfl) (fun h6 => ?_) (fun h6 => ?_)
            · try simp only [Z.a, Z.b, Z.c, Z.d, Z.e, Z.f, Z.g, Z.h, Z.i, Z.j, Z.k, Z.l, Z.m] at h6
              have hq2 := h6
              refine RO.nil ?_
              refine Runs.condT rfl ?_
              refine Runs.has [(0, .d (.int _ _)), (6, .ref 0 0), (9, .ref 1 0), (34, .d (.list (encPs _))), (35, .d (.int _ _)), (36, .d (.int _ _))] ⟨rfl, rfl, rfl, rfl, rfl, rfl, trivial⟩ ?_
              refine Runs.rseq ?_
              refine RO.opv (v' := .d .nilp) (opv_assign rfl) rfl ?_
              refine RO.opv (v' := .d (.int _ _)) (opv_assign rfl) rfl ?_
              refine RO.nil ?_
              refine Runs.ret ?_
              refine thenQ_ret ?_
              refine blockQ_ret ?_
              refine thenQ_ret ?_
              refine thenQ_ret ?_
              refine blockQ_ret ?_
              refine thenQ_ret ?_
              refine EndQ.tmps2 (.inr rfl) rfl rfl rfl 0 (by exact Nat.le_refl _) (by exact Nat.zero_le _) ⟨trivial, trivial, trivial⟩ ⟨?_, rfl⟩
              rw [newL_add (by omega) (by omega) (by rw [← List.take_append_drop x.1 ps, List.drop_eq_getElem_cons hk]; exact Lt.adds_none _ _ _ hx.2 (by simp [*]))]; rfl
            · try simp only [Z.a, Z.b, Z.c, Z.d, Z.e, Z.f, Z.g, Z.h, Z.i, Z.j, Z.k, Z.l, Z.m] at h6
              have hq2 := h6
              obtain ⟨hp2, hp3⟩ := Lt.is_iff.1 h6
              have hpw : 2 ^ ps[x.1].2.toNat < 2 ^ 16 := Nat.pow_lt_pow_right (by decide) (by omega)
              refine RO.nil ?_
              refine Runs.condF rfl ?_
              refine Runs.skip ?_
              refine thenQ_normal ?_
              refine Runs.has [(0, .d (.int _ _)), (6, .ref 0 0), (9, .ref 1 0), (34, .d (.list (encPs _))), (35, .d (.int _ _)), (36, .d (.int _ _))] ⟨rfl, rfl, rfl, rfl, rfl, rfl, trivial⟩ ?_
              refine Runs.drawn (by kernel_rfl) [] [false, false, false, false, false, false, false, false, false, false, false, false, false, false, false, false] [false, false, false, false, false, false, false, false, false, false, false, false, false, false, false, true] (by decide +kernel) ?_
              refine RD.opv (v' := .ref 0 0) (opv_move rfl) rfl ?_
              refine RD.opv (v' := .ref 1 0) (opv_index_aref (i := 0) rfl rfl rfl (by decide) (by decide)) rfl ?_
              refine RD.opv (v' := .d (.int _ _)) (opv_load_ref rfl rfl rfl) rfl ?_
              refine RD.opv (v' := .ref 0 0) (opv_nilCheck_ref rfl rfl) rfl ?_
              refine RD.opv (v' := .ref 0 1) (opv_field_ref rfl rfl) rfl ?_
              refine RD.opv (v' := .ref 0 _) (opv_lref_ix rfl rfl rfl (by omega) (by omega) rfl rfl) rfl ?_
              refine RD.opv (v' := .d (.int _ _)) (opv_lref_ld rfl rfl hxo (by omega) rfl rfl) rfl ?_
              refine RD.opv (v' := .ref 1 1) (opv_index_aref (i := 1) rfl rfl rfl (by decide) (by decide)) rfl ?_
              refine RD.opv (v' := .d (.int _ _)) (opv_load_ref rfl rfl rfl) rfl ?_
              refine RD.opv (v' := .d (.int _ _)) (opv_conv (r := ((ps[x.1].2.toNat : Nat) : Int)) rfl ((wrapu (by omega) (by omega)).trans (by omega))) rfl ?_
              refine RD.opv (v' := .d (.int _ _)) (opv_shl1 rfl rfl (by omega)) rfl ?_
              refine RD.opv (v' := .d (.int _ _)) (opv_bin rfl rfl (binD_or (sm64 (hxo.u _)) (sm64 hpw))) rfl ?_
              refine RD.opv (v' := .ref 0 0) (opv_nilCheck_ref rfl rfl) rfl ?_
              refine RD.opv (v' := .ref 0 1) (opv_field_ref rfl rfl) rfl ?_
              refine RD.opv (v' := .ref 0 _) (opv_lref_ix rfl rfl rfl (by omega) (by omega) rfl rfl) rfl ?_
              refine RD.op0n (O' := [_, _]) (opv_lref_st rfl rfl rfl hxo (by omega) rfl) rfl trivial ?_
              refine RD.nil ?_
              refine blockQ_normal ?_
              refine thenQ_normal ?_
              refine Runs.has [(0, .d (.int _ _)), (6, .ref 0 0), (34, .d (.list (encPs _))), (35, .d (.int _ _)), (36, .d (.int _ _))] ⟨rfl, rfl, rfl, rfl, rfl, trivial⟩ ?_
              refine Runs.region ?_
              refine RO.opv (v' := .d (.int _ _)) (opv_bin rfl rfl rfl) rfl ?_
              refine RO.opv (v' := .d (.int _ _)) (opv_move rfl) rfl ?_
              refine RO.nil ?_
              refine thenQ_normal ?_
              refine ⟨(x.1 + 1, x.2.add ps[x.1]), 1, (by rw [hK]; exact Nat.le_of_ble_eq_true rfl), ⟨rfl, rfl, rfl, rfl, trivial⟩, ⟨?_, trivial⟩, rfl, ?_, ?_⟩
              · refine int_eq ?_; rw [wrap64 (by omega) (by omega)]; omega
              · refine ⟨hk, ?_⟩
                show (lt0 m m).adds (ps.take (x.1 + 1)) = _
                rw [List.take_succ_eq_append_getElem hk, Lt.adds_snoc _ _ _ _ hx.2, if_pos ⟨hq1, hq2⟩]
              · show ps.length - (x.1 + 1) < _; omega
        · try simp only [Z.a, Z.b, Z.c, Z.d, Z.e, Z.f, Z.g, Z.h, Z.i, Z.j, Z.k, Z.l, Z.m] at h4
          have hk : x.1 = ps.length := by omega
          refine RO.nil ?_
          refine Runs.seq ?_
          refine Runs.condF rfl ?_
          refine Runs.exit ?_
          refine thenQ_exit ?_
          refine thenQ_exit ?_
          refine blockQ_here ?_
          refine thenQ_normal ?_
          refine Runs.has [(0, .d (.int _ _)), (6, .ref 0 0)] ⟨rfl, rfl, trivial⟩ ?_
          refine Runs.rseq ?_
          refine RO.opv (v' := .ref 0 0) (opv_move rfl) rfl ?_
          refine RO.opn (O' := [_]) (opv_callP 1 (close_fn x.2 hxo) rfl rfl (Nat.le_of_ble_eq_true rfl) rfl (AV.bds_of_B _ rfl)) rfl rfl ?_
          refine RO.nil ?_
          refine Runs.has [(0, .d (.int _ _)), (6, .ref 0 0)] ⟨rfl, rfl, trivial⟩ ?_
          refine Runs.seq ?_
          refine Runs.freezeL 6 rfl rfl ?_
          refine Runs.rseq ?_
          refine RO.opv (v' := .d (.int _ _)) (opv_move rfl) rfl ?_
          refine RO.opv (v' := .d (.int _ _)) (opv_move rfl) rfl ?_
          refine RO.nil ?_
          refine Runs.block ?_
          have hadd : (lt0 m m).adds ps = some x.2 := by have := hx.2; rwa [hk, List.take_length] at this
          have hco := (Lt.close_ok hxo).1
          have hcn : x.2.close.n = m := (Lt.close_ok hxo).2.trans hxn
          refine Runs.loopC (X := Nat) (fun i => i ≤ m ∧ ∀ a b, a < i → b < m → x.2.close.bad a b = false) (fun i => m - i) [(0, .d (.int _ _)), (6, .d (encL _)), (70, .d (.int _ _))] (fun i => [(71, .d (.int .i64 (i : Nat)))]) [_] (fun i => []) (0) ⟨rfl, rfl, rfl, trivial⟩ ⟨rfl, trivial⟩ rfl ⟨Nat.zero_le _, fun a b h => absurd h (Nat.not_lt_zero _)⟩ fun i hi => ?_
          refine Runs.rseq ?_
          refine RO.opc (opv_bin rfl rfl rfl) (fun h7 => ?_) (fun h7 => ?_)
          · try simp only [Z.a, Z.b, Z.c, Z.d, Z.e, Z.f, Z.g, Z.h, Z.i, Z.j, Z.k, Z.l, Z.m] at h7
            have hka : i < m := by omega
            refine RO.nil ?_
            refine Runs.seq ?_
            refine Runs.condT rfl ?_
            refine Runs.skip ?_
            refine thenQ_normal ?_
            refine Runs.has [(0, .d (.int _ _)), (6, .d (encL _)), (70, .d (.int _ _)), (71, .d (.int _ _))] ⟨rfl, rfl, rfl, rfl, trivial⟩ ?_
            refine Runs.seq ?_
            refine Runs.block ?_
            refine Runs.rseq ?_
            refine RO.opv (v' := .d (.int _ _)) (opv_move rfl) rfl ?_
            refine RO.opv (v' := .d (.int _ _)) (opv_assign rfl) rfl ?_
            refine RO.nil ?_
            refine Runs.has [(0, .d (.int _ _)), (6, .d (encL _)), (10, .d (.int _ _)), (70, .d (.int _ _)), (71, .d (.int _ _))] ⟨rfl, rfl, rfl, rfl, rfl, trivial⟩ ?_
            refine Runs.rseq ?_
            refine RO.opv (v' := .d (.int _ _)) (opv_move rfl) rfl ?_
            refine RO.opv (v' := .d (.int _ _)) (opv_move rfl) rfl ?_
            refine RO.nil ?_
            refine Runs.block ?_
            refine Runs.loopC (X := Nat) (fun j => j ≤ m ∧ ∀ b, b < j → x.2.close.bad i b = false) (fun j => m - j) [(0, .d (.int _ _)), (6, .d (encL _)), (10, .d (.int _ _)), (70, .d (.int _ _)), (71, .d (.int _ _)), (74, .d (.int _ _))] (fun j => [(75, .d (.int .i64 (j : Nat)))]) [_] (fun j => []) (0) ⟨rfl, rfl, rfl, rfl, rfl, rfl, trivial⟩ ⟨rfl, trivial⟩ rfl ⟨Nat.zero_le _, fun b h => absurd h (Nat.not_lt_zero _)⟩ fun j hj => ?_
            refine Runs.rseq ?_
            refine RO.opc (opv_bin rfl rfl rfl) (fun h8 => ?_) (fun h8 => ?_)
            · try simp only [Z.a, Z.b, Z.c, Z.d, Z.e, Z.f, Z.g, Z.h, Z.i, Z.j, Z.k, Z.l, Z.m] at h8
              have hkb : j < m := by omega
              refine RO.nil ?_
              refine Runs.seq ?_
              refine Runs.condT rfl ?_
              refine Runs.skip ?_
              refine thenQ_normal ?_
              refine Runs.has [(0, .d (.int _ _)), (6, .d (encL _)), (10, .d (.int _ _)), (70, .d (.int _ _)), (71, .d (.int _ _)), (74, .d (.int _ _)), (75, .d (.int _ _))] ⟨rfl, rfl, rfl, rfl, rfl, rfl, rfl, trivial⟩ ?_
              refine Runs.seq ?_
              refine Runs.block ?_
              refine Runs.rseq ?_
              refine RO.opv (v' := .d (.int _ _)) (opv_move rfl) rfl ?_
              refine RO.opv (v' := .d (.int _ _)) (opv_assign rfl) rfl ?_
              refine RO.nil ?_
              refine Runs.has [(0, .d (.int _ _)), (6, .d (encL _)), (10, .d (.int _ _)), (11, .d (.int _ _)), (70, .d (.int _ _)), (71, .d (.int _ _)), (74, .d (.int _ _)), (75, .d (.int _ _))] ⟨rfl, rfl, rfl, rfl, rfl, rfl, rfl, rfl, trivial⟩ ?_
              refine Runs.rseq ?_
              refine RO.opv (v' := .d (.int _ _)) (opv_move rfl) rfl ?_
              refine RO.opv (v' := .d (.int _ _)) (opv_move rfl) rfl ?_
              refine RO.opv (v' := .d (.bool _)) (opv_bin rfl rfl rfl) rfl ?_
              refine RO.opc (opv_move rfl) (fun h9 => ?_) (fun h9 => ?_)
              · try simp only [Z.a, Z.b, Z.c, Z.d, Z.e, Z.f, Z.g, Z.h, Z.i, Z.j, Z.k, Z.l, Z.m] at h9
                have hne : (i != j) = true := by simp; omega
                refine RO.opgv (v' := .d (encL _)) rfl (opv_move rfl) rfl ?_
                refine RO.opgv (v' := .d (.int _ _)) rfl (opv_move rfl) rfl ?_
                refine RO.opgv (v' := .d (.int _ _)) rfl (opv_move rfl) rfl ?_
                refine RO.opgv (v' := .d (.bool _)) rfl (opv_callF (leq_fn _ hco _ _) rfl rfl rfl trivial) rfl ?_
                refine RO.opv (v' := .d (.bool _)) (opv_pick rfl rfl) rfl ?_
                refine RO.opc (opv_move rfl) (fun h10 => ?_) (fun h10 => ?_)
                · try simp only [Z.a, Z.b, Z.c, Z.d, Z.e, Z.f, Z.g, Z.h, Z.i, Z.j, Z.k, Z.l, Z.m] at h10
                  refine RO.opgv (v' := .d (encL _)) rfl (opv_move rfl) rfl ?_
                  refine RO.opgv (v' := .d (.int _ _)) rfl (opv_move rfl) rfl ?_
                  refine RO.opgv (v' := .d (.int _ _)) rfl (opv_move rfl) rfl ?_
                  refine RO.opgv (v' := .d (.bool _)) rfl (opv_callF (leq_fn _ hco _ _) rfl rfl rfl trivial) rfl ?_
                  refine RO.opv (v' := .d (.bool _)) (opv_pick rfl rfl) rfl ?_
                  refine RO.opc (opv_move rfl) (fun h11 => ?_) (fun h11 => ?_)
                  · try simp only [Z.a, Z.b, Z.c, Z.d, Z.e, Z.f, Z.g, Z.h, Z.i, Z.j, Z.k, Z.l, Z.m] at h11
                    refine RO.off rfl ?_
                    refine RO.off rfl ?_
                    refine RO.off rfl ?_
                    refine RO.off rfl ?_
                    refine RO.off rfl ?_
                    refine RO.opv (v' := .d (.bool true)) (opv_pick rfl rfl) rfl ?_
                    refine RO.opv (v' := .d (.bool true)) (opv_move rfl) rfl ?_
                    refine RO.off rfl ?_
                    refine RO.off rfl ?_
                    refine RO.off rfl ?_
                    refine RO.off rfl ?_
                    refine RO.off rfl ?_
                    refine RO.opv (v' := .d (.bool true)) (opv_pick rfl rfl) rfl ?_
                    refine RO.nil ?_
                    refine Runs.condT rfl ?_
                    refine Runs.has [(0, .d (.int _ _)), (6, .d (encL _)), (10, .d (.int _ _)), (70, .d (.int _ _)), (71, .d (.int _ _)), (74, .d (.int _ _)), (75, .d (.int _ _))] ⟨rfl, rfl, rfl, rfl, rfl, rfl, rfl, trivial⟩ ?_
                    refine Runs.rseq ?_
                    refine RO.opv (v' := .d .nilp) (opv_assign rfl) rfl ?_
                    refine RO.opv (v' := .d (.int _ _)) (opv_assign rfl) rfl ?_
                    refine RO.nil ?_
                    refine Runs.ret ?_
                    refine blockQ_ret ?_
                    refine thenQ_ret ?_
                    refine thenQ_ret ?_
                    refine blockQ_ret ?_
                    refine blockQ_ret ?_
                    refine thenQ_ret ?_
                    refine thenQ_ret ?_
                    refine blockQ_ret ?_
                    refine thenQ_ret ?_
                    refine EndQ.tmps2 (.inr rfl) rfl rfl rfl 0 (by exact Nat.le_refl _) (by exact Nat.zero_le _) ⟨trivial, trivial, trivial⟩ ⟨?_, rfl⟩
                    first
                      | (rw [newL_bad (by omega) (by omega) hadd (a := i) (b := j) (by omega) (by omega) (by simp [Lt.bad, *])]; rfl)
                      | (rw [newL_ok (by omega) (by omega) hadd (by rw [hcn, ← hka]; rw [← hka] at hi; exact hi.2)]; rfl)
                  · try simp only [Z.a, Z.b, Z.c, Z.d, Z.e, Z.f, Z.g, Z.h, Z.i, Z.j, Z.k, Z.l, Z.m] at h11
                    refine RO.opgv (v' := .d (encL _)) rfl (opv_move rfl) rfl ?_
                    refine RO.opgv (v' := .d (.int _ _)) rfl (opv_move rfl) rfl ?_
                    refine RO.opgv (v' := .d (.int _ _)) rfl (opv_move rfl) rfl ?_
                    refine RO.opgv (v' := .d (.int _ _)) rfl (opv_callF (ljoin_fn _ hco _ _) rfl rfl rfl trivial) rfl ?_
                    refine RO.opgv (v' := .d (.bool _)) rfl (opv_bin rfl rfl rfl) rfl ?_
                    refine RO.opv (v' := .d (.bool _)) (opv_pick rfl rfl) rfl ?_
                    refine RO.opc (opv_move rfl) (fun h12 => ?_) (fun h12 => ?_)
                    · try simp only [Z.a, Z.b, Z.c, Z.d, Z.e, Z.f, Z.g, Z.h, Z.i, Z.j, Z.k, Z.l, Z.m] at h12
                      refine RO.off rfl ?_
                      refine RO.off rfl ?_
                      refine RO.off rfl ?_
                      refine RO.off rfl ?_
                      refine RO.off rfl ?_
                      refine RO.opv (v' := .d (.bool true)) (opv_pick rfl rfl) rfl ?_
                      refine RO.nil ?_
                      refine Runs.condT rfl ?_
                      refine Runs.has [(0, .d (.int _ _)), (6, .d (encL _)), (10, .d (.int _ _)), (70, .d (.int _ _)), (71, .d (.int _ _)), (74, .d (.int _ _)), (75, .d (.int _ _))] ⟨rfl, rfl, rfl, rfl, rfl, rfl, rfl, trivial⟩ ?_
                      refine Runs.rseq ?_
                      refine RO.opv (v' := .d .nilp) (opv_assign rfl) rfl ?_
                      refine RO.opv (v' := .d (.int _ _)) (opv_assign rfl) rfl ?_
                      refine RO.nil ?_
                      refine Runs.ret ?_
                      refine blockQ_ret ?_
                      refine thenQ_ret ?_
                      refine thenQ_ret ?_
                      refine blockQ_ret ?_
                      refine blockQ_ret ?_
                      refine thenQ_ret ?_
                      refine thenQ_ret ?_
                      refine blockQ_ret ?_
                      refine thenQ_ret ?_
                      refine EndQ.tmps2 (.inr rfl) rfl rfl rfl 0 (by exact Nat.le_refl _) (by exact Nat.zero_le _) ⟨trivial, trivial, trivial⟩ ⟨?_, rfl⟩
                      first
                        | (rw [newL_bad (by omega) (by omega) hadd (a := i) (b := j) (by omega) (by omega) (by simp [Lt.bad, *])]; rfl)
                        | (rw [newL_ok (by omega) (by omega) hadd (by rw [hcn, ← hka]; rw [← hka] at hi; exact hi.2)]; rfl)
                    · try simp only [Z.a, Z.b, Z.c, Z.d, Z.e, Z.f, Z.g, Z.h, Z.i, Z.j, Z.k, Z.l, Z.m] at h12
                      refine RO.opgv (v' := .d (encL _)) rfl (opv_move rfl) rfl ?_
                      refine RO.opgv (v' := .d (.int _ _)) rfl (opv_move rfl) rfl ?_
                      refine RO.opgv (v' := .d (.int _ _)) rfl (opv_move rfl) rfl ?_
                      refine RO.opgv (v' := .d (.int _ _)) rfl (opv_callF (lmeet_fn _ hco _ _) rfl rfl rfl trivial) rfl ?_
                      refine RO.opgv (v' := .d (.bool _)) rfl (opv_bin rfl rfl rfl) rfl ?_
                      refine RO.opc (opv_pick rfl rfl) (fun h13 => ?_) (fun h13 => ?_)
                      · try simp only [Z.a, Z.b, Z.c, Z.d, Z.e, Z.f, Z.g, Z.h, Z.i, Z.j, Z.k, Z.l, Z.m] at h13
                        refine RO.nil ?_
                        refine Runs.condT rfl ?_
                        refine Runs.has [(0, .d (.int _ _)), (6, .d (encL _)), (10, .d (.int _ _)), (70, .d (.int _ _)), (71, .d (.int _ _)), (74, .d (.int _ _)), (75, .d (.int _ _))] ⟨rfl, rfl, rfl, rfl, rfl, rfl, rfl, trivial⟩ ?_
                        refine Runs.rseq ?_
                        refine RO.opv (v' := .d .nilp) (opv_assign rfl) rfl ?_
                        refine RO.opv (v' := .d (.int _ _)) (opv_assign rfl) rfl ?_
                        refine RO.nil ?_
                        refine Runs.ret ?_
                        refine blockQ_ret ?_
                        refine thenQ_ret ?_
                        refine thenQ_ret ?_
                        refine blockQ_ret ?_
                        refine blockQ_ret ?_
                        refine thenQ_ret ?_
                        refine thenQ_ret ?_
                        refine blockQ_ret ?_
                        refine thenQ_ret ?_
                        refine EndQ.tmps2 (.inr rfl) rfl rfl rfl 0 (by exact Nat.le_refl _) (by exact Nat.zero_le _) ⟨trivial, trivial, trivial⟩ ⟨?_, rfl⟩
                        first
                          | (rw [newL_bad (by omega) (by omega) hadd (a := i) (b := j) (by omega) (by omega) (by simp [Lt.bad, *])]; rfl)
                          | (rw [newL_ok (by omega) (by omega) hadd (by rw [hcn, ← hka]; rw [← hka] at hi; exact hi.2)]; rfl)
                      · try simp only [Z.a, Z.b, Z.c, Z.d, Z.e, Z.f, Z.g, Z.h, Z.i, Z.j, Z.k, Z.l, Z.m] at h13
                        refine RO.nil ?_
                        refine Runs.condF rfl ?_
                        refine Runs.skip ?_
                        refine blockQ_normal ?_
                        refine thenQ_normal ?_
                        refine Runs.has [(0, .d (.int _ _)), (6, .d (encL _)), (10, .d (.int _ _)), (70, .d (.int _ _)), (71, .d (.int _ _)), (74, .d (.int _ _)), (75, .d (.int _ _))] ⟨rfl, rfl, rfl, rfl, rfl, rfl, rfl, trivial⟩ ?_
                        refine Runs.region ?_
                        refine RO.opv (v' := .d (.int _ _)) (opv_bin rfl rfl rfl) rfl ?_
                        refine RO.opv (v' := .d (.int _ _)) (opv_move rfl) rfl ?_
                        refine RO.nil ?_
                        refine thenQ_normal ?_
                        refine ⟨j + 1, 1, (by rw [hK]; exact Nat.le_of_ble_eq_true rfl), ⟨rfl, rfl, rfl, rfl, rfl, rfl, trivial⟩, ⟨?_, trivial⟩, rfl, ?_, ?_⟩
                        · refine int_eq ?_; rw [wrap64 (by omega) (by omega)]; omega
                        · exact ⟨by omega, lt_split hj.2 (by simp [Lt.bad, *])⟩
                        · omega
                · try simp only [Z.a, Z.b, Z.c, Z.d, Z.e, Z.f, Z.g, Z.h, Z.i, Z.j, Z.k, Z.l, Z.m] at h10
                  refine RO.off rfl ?_
                  refine RO.off rfl ?_
                  refine RO.off rfl ?_
                  refine RO.off rfl ?_
                  refine RO.opv (v' := .d (.bool false)) (opv_pick rfl rfl) rfl ?_
                  refine RO.opv (v' := .d (.bool false)) (opv_move rfl) rfl ?_
                  refine RO.opgv (v' := .d (encL _)) rfl (opv_move rfl) rfl ?_
                  refine RO.opgv (v' := .d (.int _ _)) rfl (opv_move rfl) rfl ?_
                  refine RO.opgv (v' := .d (.int _ _)) rfl (opv_move rfl) rfl ?_
                  refine RO.opgv (v' := .d (.int _ _)) rfl (opv_callF (ljoin_fn _ hco _ _) rfl rfl rfl trivial) rfl ?_
                  refine RO.opgv (v' := .d (.bool _)) rfl (opv_bin rfl rfl rfl) rfl ?_
                  refine RO.opv (v' := .d (.bool _)) (opv_pick rfl rfl) rfl ?_
                  refine RO.opc (opv_move rfl) (fun h14 => ?_) (fun h14 => ?_)
                  · try simp only [Z.a, Z.b, Z.c, Z.d, Z.e, Z.f, Z.g, Z.h, Z.i, Z.j, Z.k, Z.l, Z.m] at h14
                    refine RO.off rfl ?_
                    refine RO.off rfl ?_
                    refine RO.off rfl ?_
                    refine RO.off rfl ?_
                    refine RO.off rfl ?_
                    refine RO.opv (v' := .d (.bool true)) (opv_pick rfl rfl) rfl ?_
                    refine RO.nil ?_
                    refine Runs.condT rfl ?_
                    refine Runs.has [(0, .d (.int _ _)), (6, .d (encL _)), (10, .d (.int _ _)), (70, .d (.int _ _)), (71, .d (.int _ _)), (74, .d (.int _ _)), (75, .d (.int _ _))] ⟨rfl, rfl, rfl, rfl, rfl, rfl, rfl, trivial⟩ ?_
                    refine Runs.rseq ?_
                    refine RO.opv (v' := .d .nilp) (opv_assign rfl) rfl ?_
                    refine RO.opv (v' := .d (.int _ _)) (opv_assign rfl) rfl ?_
                    refine RO.nil ?_
                    refine Runs.ret ?_
                    refine blockQ_ret ?_
                    refine thenQ_ret ?_
                    refine thenQ_ret ?_
                    refine blockQ_ret ?_
                    refine blockQ_ret ?_
                    refine thenQ_ret ?_
                    refine thenQ_ret ?_
                    refine blockQ_ret ?_
                    refine thenQ_ret ?_
                    refine EndQ.tmps2 (.inr rfl) rfl rfl rfl 0 (by exact Nat.le_refl _) (by exact Nat.zero_le _) ⟨trivial, trivial, trivial⟩ ⟨?_, rfl⟩
                    first
                      | (rw [newL_bad (by omega) (by omega) hadd (a := i) (b := j) (by omega) (by omega) (by simp [Lt.bad, *])]; rfl)
                      | (rw [newL_ok (by omega) (by omega) hadd (by rw [hcn, ← hka]; rw [← hka] at hi; exact hi.2)]; rfl)
                  · try simp only [Z.a, Z.b, Z.c, Z.d, Z.e, Z.f, Z.g, Z.h, Z.i, Z.j, Z.k, Z.l, Z.m] at h14
                    refine RO.opgv (v' := .d (encL _)) rfl (opv_move rfl) rfl ?_
                    refine RO.opgv (v' := .d (.int _ _)) rfl (opv_move rfl) rfl ?_
                    refine RO.opgv (v' := .d (.int _ _)) rfl (opv_move rfl) rfl ?_
                    refine RO.opgv (v' := .d (.int _ _)) rfl (opv_callF (lmeet_fn _ hco _ _) rfl rfl rfl trivial) rfl ?_
                    refine RO.opgv (v' := .d (.bool _)) rfl (opv_bin rfl rfl rfl) rfl ?_
                    refine RO.opc (opv_pick rfl rfl) (fun h15 => ?_) (fun h15 => ?_)
                    · try simp only [Z.a, Z.b, Z.c, Z.d, Z.e, Z.f, Z.g, Z.h, Z.i, Z.j, Z.k, Z.l, Z.m] at h15
                      refine RO.nil ?_
                      refine Runs.condT rfl ?_
                      refine Runs.has [(0, .d (.int _ _)), (6, .d (encL _)), (10, .d (.int _ _)), (70, .d (.int _ _)), (71, .d (.int _ _)), (74, .d (.int _ _)), (75, .d (.int _ _))] ⟨rfl, rfl, rfl, rfl, rfl, rfl, rfl, trivial⟩ ?_
                      refine Runs.rseq ?_
                      refine RO.opv (v' := .d .nilp) (opv_assign rfl) rfl ?_
                      refine RO.opv (v' := .d (.int _ _)) (opv_assign rfl) rfl ?_
                      refine RO.nil ?_
                      refine Runs.ret ?_
                      refine blockQ_ret ?_
                      refine thenQ_ret ?_
                      refine thenQ_ret ?_
                      refine blockQ_ret ?_
                      refine blockQ_ret ?_
                      refine thenQ_ret ?_
                      refine thenQ_ret ?_
                      refine blockQ_ret ?_
                      refine thenQ_ret ?_
                      refine EndQ.tmps2 (.inr rfl) rfl rfl rfl 0 (by exact Nat.le_refl _) (by exact Nat.zero_le _) ⟨trivial, trivial, trivial⟩ ⟨?_, rfl⟩
                      first
                        | (rw [newL_bad (by omega) (by omega) hadd (a := i) (b := j) (by omega) (by omega) (by simp [Lt.bad, *])]; rfl)
                        | (rw [newL_ok (by omega) (by omega) hadd (by rw [hcn, ← hka]; rw [← hka] at hi; exact hi.2)]; rfl)
                    · try simp only [Z.a, Z.b, Z.c, Z.d, Z.e, Z.f, Z.g, Z.h, Z.i, Z.j, Z.k, Z.l, Z.m] at h15
                      refine RO.nil ?_
                      refine Runs.condF rfl ?_
                      refine Runs.skip ?_
                      refine blockQ_normal ?_
                      refine thenQ_normal ?_
                      refine Runs.has [(0, .d (.int _ _)), (6, .d (encL _)), (10, .d (.int _ _)), (70, .d (.int _ _)), (71, .d (.int _ _)), (74, .d (.int _ _)), (75, .d (.int _ _))] ⟨rfl, rfl, rfl, rfl, rfl, rfl, rfl, trivial⟩ ?_
                      refine Runs.region ?_
                      refine RO.opv (v' := .d (.int _ _)) (opv_bin rfl rfl rfl) rfl ?_
                      refine RO.opv (v' := .d (.int _ _)) (opv_move rfl) rfl ?_
                      refine RO.nil ?_
                      refine thenQ_normal ?_
                      refine ⟨j + 1, 1, (by rw [hK]; exact Nat.le_of_ble_eq_true rfl), ⟨rfl, rfl, rfl, rfl, rfl, rfl, trivial⟩, ⟨?_, trivial⟩, rfl, ?_, ?_⟩
                      · refine int_eq ?_; rw [wrap64 (by omega) (by omega)]; omega
                      · exact ⟨by omega, lt_split hj.2 (by simp [Lt.bad, *])⟩
                      · omega
              · try simp only [Z.a, Z.b, Z.c, Z.d, Z.e, Z.f, Z.g, Z.h, Z.i, Z.j, Z.k, Z.l, Z.m] at h9
                have hne : (i != j) = false := by simp; omega
                clear h9
                refine RO.off rfl ?_
                refine RO.off rfl ?_
                refine RO.off rfl ?_
                refine RO.off rfl ?_
                refine RO.opv (v' := .d (.bool false)) (opv_pick rfl rfl) rfl ?_
                refine RO.opv (v' := .d (.bool false)) (opv_move rfl) rfl ?_
                refine RO.off rfl ?_
                refine RO.off rfl ?_
                refine RO.off rfl ?_
                refine RO.off rfl ?_
                refine RO.opv (v' := .d (.bool false)) (opv_pick rfl rfl) rfl ?_
                refine RO.opv (v' := .d (.bool false)) (opv_move rfl) rfl ?_
                refine RO.opgv (v' := .d (encL _)) rfl (opv_move rfl) rfl ?_
                refine RO.opgv (v' := .d (.int _ _)) rfl (opv_move rfl) rfl ?_
                refine RO.opgv (v' := .d (.int _ _)) rfl (opv_move rfl) rfl ?_
                refine RO.opgv (v' := .d (.int _ _)) rfl (opv_callF (ljoin_fn _ hco _ _) rfl rfl rfl trivial) rfl ?_
                refine RO.opgv (v' := .d (.bool _)) rfl (opv_bin rfl rfl rfl) rfl ?_
                refine RO.opv (v' := .d (.bool _)) (opv_pick rfl rfl) rfl ?_
                refine RO.opc (opv_move rfl) (fun h16 => ?_) (fun h16 => ?_)
                · try simp only [Z.a, Z.b, Z.c, Z.d, Z.e, Z.f, Z.g, Z.h, Z.i, Z.j, Z.k, Z.l, Z.m] at h16
                  refine RO.off rfl ?_
                  refine RO.off rfl ?_
                  refine RO.off rfl ?_
                  refine RO.off rfl ?_
                  refine RO.off rfl ?_
                  refine RO.opv (v' := .d (.bool true)) (opv_pick rfl rfl) rfl ?_
                  refine RO.nil ?_
                  refine Runs.condT rfl ?_
                  refine Runs.has [(0, .d (.int _ _)), (6, .d (encL _)), (10, .d (.int _ _)), (70, .d (.int _ _)), (71, .d (.int _ _)), (74, .d (.int _ _)), (75, .d (.int _ _))] ⟨rfl, rfl, rfl, rfl, rfl, rfl, rfl, trivial⟩ ?_
                  refine Runs.rseq ?_
                  refine RO.opv (v' := .d .nilp) (opv_assign rfl) rfl ?_
                  refine RO.opv (v' := .d (.int _ _)) (opv_assign rfl) rfl ?_
                  refine RO.nil ?_
                  refine Runs.ret ?_
                  refine blockQ_ret ?_
                  refine thenQ_ret ?_
                  refine thenQ_ret ?_
                  refine blockQ_ret ?_
                  refine blockQ_ret ?_
                  refine thenQ_ret ?_
                  refine thenQ_ret ?_
                  refine blockQ_ret ?_
                  refine thenQ_ret ?_
                  refine EndQ.tmps2 (.inr rfl) rfl rfl rfl 0 (by exact Nat.le_refl _) (by exact Nat.zero_le _) ⟨trivial, trivial, trivial⟩ ⟨?_, rfl⟩
                  first
                    | (rw [newL_bad (by omega) (by omega) hadd (a := i) (b := j) (by omega) (by omega) (by simp [Lt.bad, *])]; rfl)
                    | (rw [newL_ok (by omega) (by omega) hadd (by rw [hcn, ← hka]; rw [← hka] at hi; exact hi.2)]; rfl)
                · try simp only [Z.a, Z.b, Z.c, Z.d, Z.e, Z.f, Z.g, Z.h, Z.i, Z.j, Z.k, Z.l, Z.m] at h16
                  refine RO.opgv (v' := .d (encL _)) rfl (opv_move rfl) rfl ?_
                  refine RO.opgv (v' := .d (.int _ _)) rfl (opv_move rfl) rfl ?_
                  refine RO.opgv (v' := .d (.int _ _)) rfl (opv_move rfl) rfl ?_
                  refine RO.opgv (v' := .d (.int _ _)) rfl (opv_callF (lmeet_fn _ hco _ _) rfl rfl rfl trivial) rfl ?_
                  refine RO.opgv (v' := .d (.bool _)) rfl (opv_bin rfl rfl rfl) rfl ?_
                  refine RO.opc (opv_pick rfl rfl) (fun h17 => ?_) (fun h17 => ?_)
                  · try simp only [Z.a, Z.b, Z.c, Z.d, Z.e, Z.f, Z.g, Z.h, Z.i, Z.j, Z.k, Z.l, Z.m] at h17
                    refine RO.nil ?_
                    refine Runs.condT rfl ?_
                    refine Runs.has [(0, .d (.int _ _)), (6, .d (encL _)), (10, .d (.int _ _)), (70, .d (.int _ _)), (71, .d (.int _ _)), (74, .d (.int _ _)), (75, .d (.int _ _))] ⟨rfl, rfl, rfl, rfl, rfl, rfl, rfl, trivial⟩ ?_
                    refine Runs.rseq ?_
                    refine RO.opv (v' := .d .nilp) (opv_assign rfl) rfl ?_
                    refine RO.opv (v' := .d (.int _ _)) (opv_assign rfl) rfl ?_
                    refine RO.nil ?_
                    refine Runs.ret ?_
                    refine blockQ_ret ?_
                    refine thenQ_ret ?_
                    refine thenQ_ret ?_
                    refine blockQ_ret ?_
                    refine blockQ_ret ?_
                    refine thenQ_ret ?_
                    refine thenQ_ret ?_
                    refine blockQ_ret ?_
                    refine thenQ_ret ?_
                    refine EndQ.tmps2 (.inr rfl) rfl rfl rfl 0 (by exact Nat.le_refl _) (by exact Nat.zero_le _) ⟨trivial, trivial, trivial⟩ ⟨?_, rfl⟩
                    first
                      | (rw [newL_bad (by omega) (by omega) hadd (a := i) (b := j) (by omega) (by omega) (by simp [Lt.bad, *])]; rfl)
                      | (rw [newL_ok (by omega) (by omega) hadd (by rw [hcn, ← hka]; rw [← hka] at hi; exact hi.2)]; rfl)
                  · try simp only [Z.a, Z.b, Z.c, Z.d, Z.e, Z.f, Z.g, Z.h, Z.i, Z.j, Z.k, Z.l, Z.m] at h17
                    refine RO.nil ?_
                    refine Runs.condF rfl ?_
                    refine Runs.skip ?_
                    refine blockQ_normal ?_
                    refine thenQ_normal ?_
                    refine Runs.has [(0, .d (.int _ _)), (6, .d (encL _)), (10, .d (.int _ _)), (70, .d (.int _ _)), (71, .d (.int _ _)), (74, .d (.int _ _)), (75, .d (.int _ _))] ⟨rfl, rfl, rfl, rfl, rfl, rfl, rfl, trivial⟩ ?_
                    refine Runs.region ?_
                    refine RO.opv (v' := .d (.int _ _)) (opv_bin rfl rfl rfl) rfl ?_
                    refine RO.opv (v' := .d (.int _ _)) (opv_move rfl) rfl ?_
                    refine RO.nil ?_
                    refine thenQ_normal ?_
                    refine ⟨j + 1, 1, (by rw [hK]; exact Nat.le_of_ble_eq_true rfl), ⟨rfl, rfl, rfl, rfl, rfl, rfl, trivial⟩, ⟨?_, trivial⟩, rfl, ?_, ?_⟩
                    · refine int_eq ?_; rw [wrap64 (by omega) (by omega)]; omega
                    · exact ⟨by omega, lt_split hj.2 (by simp [Lt.bad, *])⟩
                    · omega
            · try simp only [Z.a, Z.b, Z.c, Z.d, Z.e, Z.f, Z.g, Z.h, Z.i, Z.j, Z.k, Z.l, Z.m] at h8
              have hkb : j = m := by omega
              refine RO.nil ?_
              refine Runs.seq ?_
              refine Runs.condF rfl ?_
              refine Runs.exit ?_
              refine thenQ_exit ?_
              refine thenQ_exit ?_
              refine blockQ_here ?_
              refine blockQ_normal ?_
              refine thenQ_normal ?_
              refine Runs.has [(0, .d (.int _ _)), (6, .d (encL _)), (70, .d (.int _ _)), (71, .d (.int _ _))] ⟨rfl, rfl, rfl, rfl, trivial⟩ ?_
              refine Runs.region ?_
              refine RO.opv (v' := .d (.int _ _)) (opv_bin rfl rfl rfl) rfl ?_
              refine RO.opv (v' := .d (.int _ _)) (opv_move rfl) rfl ?_
              refine RO.nil ?_
              refine thenQ_normal ?_
              refine ⟨i + 1, 1, (by rw [hK]; exact Nat.le_of_ble_eq_true rfl), ⟨rfl, rfl, rfl, trivial⟩, ⟨?_, trivial⟩, rfl, ?_, ?_⟩
              · refine int_eq ?_; rw [wrap64 (by omega) (by omega)]; omega
              · refine ⟨by omega, fun a b ha hb => ?_⟩
                rcases Nat.lt_succ_iff_lt_or_eq.1 ha with h' | h'
                · exact hi.2 a b h' hb
                · rw [h']; exact hj.2 b (by omega)
              · omega
          · try simp only [Z.a, Z.b, Z.c, Z.d, Z.e, Z.f, Z.g, Z.h, Z.i, Z.j, Z.k, Z.l, Z.m] at h7
            have hka : i = m := by omega
            refine RO.nil ?_
            refine Runs.seq ?_
            refine Runs.condF rfl ?_
            refine Runs.exit ?_
            refine thenQ_exit ?_
            refine thenQ_exit ?_
            refine blockQ_here ?_
            refine thenQ_normal ?_
            refine Runs.has [(6, .d (encL _))] ⟨rfl, trivial⟩ ?_
            refine Runs.rseq ?_
            refine RO.opv (v' := .d (encL _)) (opv_move rfl) rfl ?_
            refine RO.opv (v' := .d (encL _)) (opv_assign rfl) rfl ?_
            refine RO.opv (v' := .d (.int _ _)) (opv_assign rfl) rfl ?_
            refine RO.nil ?_
            refine Runs.ret ?_
            refine EndQ.tmps2 (.inr rfl) rfl rfl rfl 0 (by exact Nat.le_refl _) (by exact Nat.zero_le _) ⟨trivial, trivial, trivial⟩ ⟨?_, rfl⟩
            first
              | (rw [newL_bad (by omega) (by omega) hadd (a := i) (b := j) (by omega) (by omega) (by simp [Lt.bad, *])]; rfl)
              | (rw [newL_ok (by omega) (by omega) hadd (by rw [hcn, ← hka]; rw [← hka] at hi; exact hi.2)]; rfl)
end Go.Proofs.Ythpiggjclhnkcaa.AM
