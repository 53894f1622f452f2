import Derived.Test.YthpiggjclhnkcaaHg
import Derived.Test.YthpiggjclhnkcaaV1
namespace Go.Proofs.Ythpiggjclhnkcaa.AM
open Go
set_option linter.unusedVariables false
set_option linter.unusedSimpArgs false
theorem nani_fn (x : Int) : Fn Try.prog 63 [.d (.int .i64 x)] [] (.d (.bool false)) [] := by
  refine Does.run Try.func63 rfl Try.ntmps63 rfl fun K hK => ?_
  refine Runs.rseq ?_
  refine RO.opv (v' := .d (.bool false)) (opv_assign rfl) rfl ?_
  refine RO.nil ?_
  refine Runs.rseq ?_
  refine RO.opv (v' := .d (.int _ _)) (opv_move rfl) rfl ?_
  refine RO.opv (v' := .d (.int _ _)) (opv_move rfl) rfl ?_
  refine RO.opv (v' := .d (.bool _)) (opv_bin rfl rfl rfl) rfl ?_
  refine RO.opv (v' := .d (.bool _)) (opv_assign rfl) rfl ?_
  refine RO.nil ?_
  refine Runs.ret ?_
  refine EndQ.tmp (.inr rfl) rfl rfl 0 (by exact Nat.le_refl _) (by exact Nat.zero_le _) trivial ⟨?_, rfl⟩
  refine bool_eq ?_; simp
theorem cmpi_fn (x y : Int) : Fn Try.prog 56 [.d (.int .i64 x), .d (.int .i64 y)] [] (.d (.int .i64 (cmpI x y))) [] := by
  refine Does.run Try.func56 rfl Try.ntmps56 rfl fun K hK => ?_
  refine Runs.rseq ?_
  refine RO.opv (v' := .d (.int _ _)) (opv_assign rfl) rfl ?_
  refine RO.nil ?_
  refine Runs.rseq ?_
  refine RO.opv (v' := .d (.int _ _)) (opv_move rfl) rfl ?_
  refine RO.opv (v' := .d (.bool false)) (opv_callF (nani_fn _) rfl rfl rfl trivial) rfl ?_
  refine RO.opv (v' := .d (.bool false)) (opv_assign rfl) rfl ?_
  refine RO.nil ?_
  refine Runs.has [(0, .d (.int _ _)), (1, .d (.int _ _)), (4, .d (.int _ _)), (5, .d (.bool false))] ⟨rfl, rfl, rfl, rfl, trivial⟩ ?_
  refine Runs.rseq ?_
  refine RO.opv (v' := .d (.int _ _)) (opv_move rfl) rfl ?_
  refine RO.opv (v' := .d (.bool false)) (opv_callF (nani_fn _) rfl rfl rfl trivial) rfl ?_
  refine RO.opv (v' := .d (.bool false)) (opv_assign rfl) rfl ?_
  refine RO.nil ?_
  refine Runs.has [(0, .d (.int _ _)), (1, .d (.int _ _)), (4, .d (.int _ _)), (5, .d (.bool false)), (6, .d (.bool false))] ⟨rfl, rfl, rfl, rfl, rfl, trivial⟩ ?_
  refine Runs.seq ?_
  refine Runs.rseq ?_
  refine RO.opv (v' := .d (.bool false)) (opv_move rfl) rfl ?_
  refine RO.nil ?_
  refine Runs.condF rfl ?_
  refine Runs.skip ?_
  refine thenQ_normal ?_
  refine Runs.has [(0, .d (.int _ _)), (1, .d (.int _ _)), (4, .d (.int _ _)), (6, .d (.bool false))] ⟨rfl, rfl, rfl, rfl, trivial⟩ ?_
  refine Runs.seq ?_
  refine Runs.rseq ?_
  refine RO.opv (v' := .d (.bool false)) (opv_move rfl) rfl ?_
  refine RO.nil ?_
  refine Runs.condF rfl ?_
  refine Runs.skip ?_
  refine thenQ_normal ?_
  refine Runs.has [(0, .d (.int _ _)), (1, .d (.int _ _)), (4, .d (.int _ _))] ⟨rfl, rfl, rfl, trivial⟩ ?_
  refine Runs.seq ?_
  refine Runs.rseq ?_
  refine RO.opv (v' := .d (.int _ _)) (opv_move rfl) rfl ?_
  refine RO.opv (v' := .d (.int _ _)) (opv_move rfl) rfl ?_
  refine RO.opc (opv_bin rfl rfl rfl) (fun h1 => ?_) (fun h1 => ?_)
  · try simp only [Z.a, Z.b, Z.c, Z.d, Z.e, Z.f, Z.g, Z.h, Z.i, Z.j, Z.k, Z.l, Z.m] at h1
    have ha := h1
    refine RO.nil ?_
    refine Runs.condT rfl ?_
    refine Runs.has [(0, .d (.int _ _)), (1, .d (.int _ _)), (4, .d (.int _ _))] ⟨rfl, rfl, rfl, trivial⟩ ?_
    refine Runs.rseq ?_
    refine RO.opv (v' := .d (.int _ _)) (opv_assign rfl) rfl ?_
    refine RO.nil ?_
    refine Runs.ret ?_
    refine thenQ_ret ?_
    refine EndQ.tmp (.inr rfl) rfl rfl 0 (by exact Nat.le_refl _) (by exact Nat.zero_le _) trivial ⟨?_, rfl⟩
    refine int_eq ?_; unfold cmpI; rw [if_pos ha]
  · try simp only [Z.a, Z.b, Z.c, Z.d, Z.e, Z.f, Z.g, Z.h, Z.i, Z.j, Z.k, Z.l, Z.m] at h1
    have ha := h1
    refine RO.nil ?_
    refine Runs.condF rfl ?_
    refine Runs.skip ?_
    refine thenQ_normal ?_
    refine Runs.has [(0, .d (.int _ _)), (1, .d (.int _ _)), (4, .d (.int _ _))] ⟨rfl, rfl, rfl, trivial⟩ ?_
    refine Runs.seq ?_
    refine Runs.rseq ?_
    refine RO.opv (v' := .d (.int _ _)) (opv_move rfl) rfl ?_
    refine RO.opv (v' := .d (.int _ _)) (opv_move rfl) rfl ?_
    refine RO.opc (opv_bin rfl rfl rfl) (fun h2 => ?_) (fun h2 => ?_)
    · try simp only [Z.a, Z.b, Z.c, Z.d, Z.e, Z.f, Z.g, Z.h, Z.i, Z.j, Z.k, Z.l, Z.m] at h2
      have hb := h2
      refine RO.nil ?_
      refine Runs.condT rfl ?_
      refine Runs.has [(4, .d (.int _ _))] ⟨rfl, trivial⟩ ?_
      refine Runs.rseq ?_
      refine RO.opv (v' := .d (.int _ _)) (opv_assign rfl) rfl ?_
      refine RO.nil ?_
      refine Runs.ret ?_
      refine thenQ_ret ?_
      refine EndQ.tmp (.inr rfl) rfl rfl 0 (by exact Nat.le_refl _) (by exact Nat.zero_le _) trivial ⟨?_, rfl⟩
      refine int_eq ?_; unfold cmpI; rw [if_neg (by omega), if_pos hb]
    · try simp only [Z.a, Z.b, Z.c, Z.d, Z.e, Z.f, Z.g, Z.h, Z.i, Z.j, Z.k, Z.l, Z.m] at h2
      have hb := h2
      refine RO.nil ?_
      refine Runs.condF rfl ?_
      refine Runs.skip ?_
      refine thenQ_normal ?_
      refine Runs.has [(4, .d (.int _ _))] ⟨rfl, trivial⟩ ?_
      refine Runs.rseq ?_
      refine RO.opv (v' := .d (.int _ _)) (opv_assign rfl) rfl ?_
      refine RO.nil ?_
      refine Runs.ret ?_
      refine EndQ.tmp (.inr rfl) rfl rfl 0 (by exact Nat.le_refl _) (by exact Nat.zero_le _) trivial ⟨?_, rfl⟩
      refine int_eq ?_; unfold cmpI; rw [if_neg (by omega), if_neg (by omega)]
theorem nanl_fn (x : Int) : Fn Try.prog 64 [.d (.int .i64 x)] [] (.d (.bool false)) [] := by
  refine Does.run Try.func64 rfl Try.ntmps64 rfl fun K hK => ?_
  refine Runs.rseq ?_
  refine RO.opv (v' := .d (.bool false)) (opv_assign rfl) rfl ?_
  refine RO.nil ?_
  refine Runs.rseq ?_
  refine RO.opv (v' := .d (.int _ _)) (opv_move rfl) rfl ?_
  refine RO.opv (v' := .d (.int _ _)) (opv_move rfl) rfl ?_
  refine RO.opv (v' := .d (.bool _)) (opv_bin rfl rfl rfl) rfl ?_
  refine RO.opv (v' := .d (.bool _)) (opv_assign rfl) rfl ?_
  refine RO.nil ?_
  refine Runs.ret ?_
  refine EndQ.tmp (.inr rfl) rfl rfl 0 (by exact Nat.le_refl _) (by exact Nat.zero_le _) trivial ⟨?_, rfl⟩
  refine bool_eq ?_; simp
theorem cmpl_fn (x y : Int) : Fn Try.prog 57 [.d (.int .i64 x), .d (.int .i64 y)] [] (.d (.int .i64 (cmpI x y))) [] := by
  refine Does.run Try.func57 rfl Try.ntmps57 rfl fun K hK => ?_
  refine Runs.rseq ?_
  refine RO.opv (v' := .d (.int _ _)) (opv_assign rfl) rfl ?_
  refine RO.nil ?_
  refine Runs.rseq ?_
  refine RO.opv (v' := .d (.int _ _)) (opv_move rfl) rfl ?_
  refine RO.opv (v' := .d (.bool false)) (opv_callF (nanl_fn _) rfl rfl rfl trivial) rfl ?_
  refine RO.opv (v' := .d (.bool false)) (opv_assign rfl) rfl ?_
  refine RO.nil ?_
  refine Runs.has [(0, .d (.int _ _)), (1, .d (.int _ _)), (4, .d (.int _ _)), (5, .d (.bool false))] ⟨rfl, rfl, rfl, rfl, trivial⟩ ?_
  refine Runs.rseq ?_
  refine RO.opv (v' := .d (.int _ _)) (opv_move rfl) rfl ?_
  refine RO.opv (v' := .d (.bool false)) (opv_callF (nanl_fn _) rfl rfl rfl trivial) rfl ?_
  refine RO.opv (v' := .d (.bool false)) (opv_assign rfl) rfl ?_
  refine RO.nil ?_
  refine Runs.has [(0, .d (.int _ _)), (1, .d (.int _ _)), (4, .d (.int _ _)), (5, .d (.bool false)), (6, .d (.bool false))] ⟨rfl, rfl, rfl, rfl, rfl, trivial⟩ ?_
  refine Runs.seq ?_
  refine Runs.rseq ?_
  refine RO.opv (v' := .d (.bool false)) (opv_move rfl) rfl ?_
  refine RO.nil ?_
  refine Runs.condF rfl ?_
  refine Runs.skip ?_
  refine thenQ_normal ?_
  refine Runs.has [(0, .d (.int _ _)), (1, .d (.int _ _)), (4, .d (.int _ _)), (6, .d (.bool false))] ⟨rfl, rfl, rfl, rfl, trivial⟩ ?_
  refine Runs.seq ?_
  refine Runs.rseq ?_
  refine RO.opv (v' := .d (.bool false)) (opv_move rfl) rfl ?_
  refine RO.nil ?_
  refine Runs.condF rfl ?_
  refine Runs.skip ?_
  refine thenQ_normal ?_
  refine Runs.has [(0, .d (.int _ _)), (1, .d (.int _ _)), (4, .d (.int _ _))] ⟨rfl, rfl, rfl, trivial⟩ ?_
  refine Runs.seq ?_
  refine Runs.rseq ?_
  refine RO.opv (v' := .d (.int _ _)) (opv_move rfl) rfl ?_
  refine RO.opv (v' := .d (.int _ _)) (opv_move rfl) rfl ?_
  refine RO.opc (opv_bin rfl rfl rfl) (fun h1 => ?_) (fun h1 => ?_)
  · try simp only [Z.a, Z.b, Z.c, Z.d, Z.e, Z.f, Z.g, Z.h, Z.i, Z.j, Z.k, Z.l, Z.m] at h1
    have ha := h1
    refine RO.nil ?_
    refine Runs.condT rfl ?_
    refine Runs.has [(0, .d (.int _ _)), (1, .d (.int _ _)), (4, .d (.int _ _))] ⟨rfl, rfl, rfl, trivial⟩ ?_
    refine Runs.rseq ?_
    refine RO.opv (v' := .d (.int _ _)) (opv_assign rfl) rfl ?_
    refine RO.nil ?_
    refine Runs.ret ?_
    refine thenQ_ret ?_
    refine EndQ.tmp (.inr rfl) rfl rfl 0 (by exact Nat.le_refl _) (by exact Nat.zero_le _) trivial ⟨?_, rfl⟩
    refine int_eq ?_; unfold cmpI; rw [if_pos ha]
  · try simp only [Z.a, Z.b, Z.c, Z.d, Z.e, Z.f, Z.g, Z.h, Z.i, Z.j, Z.k, Z.l, Z.m] at h1
    have ha := h1
    refine RO.nil ?_
    refine Runs.condF rfl ?_
    refine Runs.skip ?_
    refine thenQ_normal ?_
    refine Runs.has [(0, .d (.int _ _)), (1, .d (.int _ _)), (4, .d (.int _ _))] ⟨rfl, rfl, rfl, trivial⟩ ?_
    refine Runs.seq ?_
    refine Runs.rseq ?_
    refine RO.opv (v' := .d (.int _ _)) (opv_move rfl) rfl ?_
    refine RO.opv (v' := .d (.int _ _)) (opv_move rfl) rfl ?_
    refine RO.opc (opv_bin rfl rfl rfl) (fun h2 => ?_) (fun h2 => ?_)
    · try simp only [Z.a, Z.b, Z.c, Z.d, Z.e, Z.f, Z.g, Z.h, Z.i, Z.j, Z.k, Z.l, Z.m] at h2
      have hb := h2
      refine RO.nil ?_
      refine Runs.condT rfl ?_
      refine Runs.has [(4, .d (.int _ _))] ⟨rfl, trivial⟩ ?_
      refine Runs.rseq ?_
      refine RO.opv (v' := .d (.int _ _)) (opv_assign rfl) rfl ?_
      refine RO.nil ?_
      refine Runs.ret ?_
      refine thenQ_ret ?_
      refine EndQ.tmp (.inr rfl) rfl rfl 0 (by exact Nat.le_refl _) (by exact Nat.zero_le _) trivial ⟨?_, rfl⟩
      refine int_eq ?_; unfold cmpI; rw [if_neg (by omega), if_pos hb]
    · try simp only [Z.a, Z.b, Z.c, Z.d, Z.e, Z.f, Z.g, Z.h, Z.i, Z.j, Z.k, Z.l, Z.m] at h2
      have hb := h2
      refine RO.nil ?_
      refine Runs.condF rfl ?_
      refine Runs.skip ?_
      refine thenQ_normal ?_
      refine Runs.has [(4, .d (.int _ _))] ⟨rfl, trivial⟩ ?_
      refine Runs.rseq ?_
      refine RO.opv (v' := .d (.int _ _)) (opv_assign rfl) rfl ?_
      refine RO.nil ?_
      refine Runs.ret ?_
      refine EndQ.tmp (.inr rfl) rfl rfl 0 (by exact Nat.le_refl _) (by exact Nat.zero_le _) trivial ⟨?_, rfl⟩
      refine int_eq ?_; unfold cmpI; rw [if_neg (by omega), if_neg (by omega)]
theorem nans_fn (x : ByteArray) : Fn Try.prog 65 [.d (.str x)] [] (.d (.bool false)) [] := by
  refine Does.run Try.func65 rfl Try.ntmps65 rfl fun K hK => ?_
  refine Runs.rseq ?_
  refine RO.opv (v' := .d (.bool false)) (opv_assign rfl) rfl ?_
  refine RO.nil ?_
  refine Runs.rseq ?_
  refine RO.opv (v' := .d (.str _)) (opv_move rfl) rfl ?_
  refine RO.opv (v' := .d (.str _)) (opv_move rfl) rfl ?_
  refine RO.opv (v' := .d (.bool _)) (opv_bin rfl rfl rfl) rfl ?_
  refine RO.opv (v' := .d (.bool _)) (opv_assign rfl) rfl ?_
  refine RO.nil ?_
  refine Runs.ret ?_
  refine EndQ.tmp (.inr rfl) rfl rfl 0 (by exact Nat.le_refl _) (by exact Nat.zero_le _) trivial ⟨?_, rfl⟩
  refine bool_eq ?_; simp
theorem cmps_fn (x y : ByteArray) : Fn Try.prog 58 [.d (.str x), .d (.str y)] [] (.d (.int .i64 (cmpS x y))) [] := by
  refine Does.run Try.func58 rfl Try.ntmps58 rfl fun K hK => ?_
  refine Runs.rseq ?_
  refine RO.opv (v' := .d (.int _ _)) (opv_assign rfl) rfl ?_
  refine RO.nil ?_
  refine Runs.rseq ?_
  refine RO.opv (v' := .d (.str _)) (opv_move rfl) rfl ?_
  refine RO.opv (v' := .d (.bool false)) (opv_callF (nans_fn _) rfl rfl rfl trivial) rfl ?_
  refine RO.opv (v' := .d (.bool false)) (opv_assign rfl) rfl ?_
  refine RO.nil ?_
  refine Runs.has [(0, .d (.str _)), (1, .d (.str _)), (4, .d (.int _ _)), (5, .d (.bool false))] ⟨rfl, rfl, rfl, rfl, trivial⟩ ?_
  refine Runs.rseq ?_
  refine RO.opv (v' := .d (.str _)) (opv_move rfl) rfl ?_
  refine RO.opv (v' := .d (.bool false)) (opv_callF (nans_fn _) rfl rfl rfl trivial) rfl ?_
  refine RO.opv (v' := .d (.bool false)) (opv_assign rfl) rfl ?_
  refine RO.nil ?_
  refine Runs.has [(0, .d (.str _)), (1, .d (.str _)), (4, .d (.int _ _)), (5, .d (.bool false)), (6, .d (.bool false))] ⟨rfl, rfl, rfl, rfl, rfl, trivial⟩ ?_
  refine Runs.seq ?_
  refine Runs.rseq ?_
  refine RO.opv (v' := .d (.bool false)) (opv_move rfl) rfl ?_
  refine RO.nil ?_
  refine Runs.condF rfl ?_
  refine Runs.skip ?_
  refine thenQ_normal ?_
  refine Runs.has [(0, .d (.str _)), (1, .d (.str _)), (4, .d (.int _ _)), (6, .d (.bool false))] ⟨rfl, rfl, rfl, rfl, trivial⟩ ?_
  refine Runs.seq ?_
  refine Runs.rseq ?_
  refine RO.opv (v' := .d (.bool false)) (opv_move rfl) rfl ?_
  refine RO.nil ?_
  refine Runs.condF rfl ?_
  refine Runs.skip ?_
  refine thenQ_normal ?_
  refine Runs.has [(0, .d (.str _)), (1, .d (.str _)), (4, .d (.int _ _))] ⟨rfl, rfl, rfl, trivial⟩ ?_
  refine Runs.seq ?_
  refine Runs.rseq ?_
  refine RO.opv (v' := .d (.str _)) (opv_move rfl) rfl ?_
  refine RO.opv (v' := .d (.str _)) (opv_move rfl) rfl ?_
  refine RO.opc (opv_bin rfl rfl rfl) (fun h1 => ?_) (fun h1 => ?_)
  · skip
    have ha := h1
    refine RO.nil ?_
    refine Runs.condT rfl ?_
    refine Runs.has [(0, .d (.str _)), (1, .d (.str _)), (4, .d (.int _ _))] ⟨rfl, rfl, rfl, trivial⟩ ?_
    refine Runs.rseq ?_
    refine RO.opv (v' := .d (.int _ _)) (opv_assign rfl) rfl ?_
    refine RO.nil ?_
    refine Runs.ret ?_
    refine thenQ_ret ?_
    refine EndQ.tmp (.inr rfl) rfl rfl 0 (by exact Nat.le_refl _) (by exact Nat.zero_le _) trivial ⟨?_, rfl⟩
    refine int_eq ?_; unfold cmpS; rw [if_pos ha]
  · skip
    have ha := h1
    refine RO.nil ?_
    refine Runs.condF rfl ?_
    refine Runs.skip ?_
    refine thenQ_normal ?_
    refine Runs.has [(0, .d (.str _)), (1, .d (.str _)), (4, .d (.int _ _))] ⟨rfl, rfl, rfl, trivial⟩ ?_
    refine Runs.seq ?_
    refine Runs.rseq ?_
    refine RO.opv (v' := .d (.str _)) (opv_move rfl) rfl ?_
    refine RO.opv (v' := .d (.str _)) (opv_move rfl) rfl ?_
    refine RO.opc (opv_bin rfl rfl rfl) (fun h2 => ?_) (fun h2 => ?_)
    · skip
      have hb := h2
      refine RO.nil ?_
      refine Runs.condT rfl ?_
      refine Runs.has [(4, .d (.int _ _))] ⟨rfl, trivial⟩ ?_
      refine Runs.rseq ?_
      refine RO.opv (v' := .d (.int _ _)) (opv_assign rfl) rfl ?_
      refine RO.nil ?_
      refine Runs.ret ?_
      refine thenQ_ret ?_
      refine EndQ.tmp (.inr rfl) rfl rfl 0 (by exact Nat.le_refl _) (by exact Nat.zero_le _) trivial ⟨?_, rfl⟩
      refine int_eq ?_; unfold cmpS; rw [if_neg (by rw [ha]; exact Bool.false_ne_true), if_pos (gtS ha hb)]
    · skip
      have hb := h2
      refine RO.nil ?_
      refine Runs.condF rfl ?_
      refine Runs.skip ?_
      refine thenQ_normal ?_
      refine Runs.has [(4, .d (.int _ _))] ⟨rfl, trivial⟩ ?_
      refine Runs.rseq ?_
      refine RO.opv (v' := .d (.int _ _)) (opv_assign rfl) rfl ?_
      refine RO.nil ?_
      refine Runs.ret ?_
      refine EndQ.tmp (.inr rfl) rfl rfl 0 (by exact Nat.le_refl _) (by exact Nat.zero_le _) trivial ⟨?_, rfl⟩
      refine int_eq ?_; unfold cmpS; rw [if_neg (by rw [ha]; exact Bool.false_ne_true), if_neg (leS hb)]
theorem or_fn (l : List Int) (hl : l.length ≤ 2 ^ 20) : Fn Try.prog 55 [.d (.list (ints l))] [] (.d (.int .i64 (orI l))) [] := by
  refine Does.run Try.func55 rfl Try.ntmps55 rfl fun K hK => ?_
  refine Runs.rseq ?_
  refine RO.opv (v' := .d (.int _ _)) (opv_assign rfl) rfl ?_
  refine RO.nil ?_
  refine Runs.rseq ?_
  refine RO.opv (v' := .d (.int _ _)) (opv_assign rfl) rfl ?_
  refine RO.nil ?_
  refine Runs.seq ?_
  refine Runs.rseq ?_
  refine RO.opv (v' := .d (.list (ints _))) (opv_move rfl) rfl ?_
  refine RO.opv (v' := .d (.int _ _)) (opv_len_ints rfl) rfl ?_
  refine RO.opv (v' := .d (.int _ _)) (opv_move rfl) rfl ?_
  refine RO.nil ?_
  refine Runs.block ?_
  refine Runs.loopC (X := Nat) (fun i => i ≤ l.length ∧ orI l = orI (l.drop i)) (fun i => l.length - i) [(3, .d (.int _ _)), (6, .d (.list (ints _))), (7, .d (.int _ _))] (fun i => [(8, .d (.int .i64 (i : Nat)))]) [] (fun i => []) (0) ⟨rfl, rfl, rfl, trivial⟩ ⟨rfl, trivial⟩ rfl ⟨Nat.zero_le _, rfl⟩ fun i hi => ?_
  refine Runs.rseq ?_
  refine RO.opc (opv_bin rfl rfl rfl) (fun h1 => ?_) (fun h1 => ?_)
  · try simp only [Z.a, Z.b, Z.c, Z.d, Z.e, Z.f, Z.g, Z.h, Z.i, Z.j, Z.k, Z.l, Z.m] at h1
    have hk : i < l.length := by omega
    refine RO.nil ?_
    refine Runs.seq ?_
    refine Runs.condT rfl ?_
    refine Runs.skip ?_
    refine thenQ_normal ?_
    refine Runs.has [(3, .d (.int _ _)), (6, .d (.list (ints _))), (7, .d (.int _ _)), (8, .d (.int _ _))] ⟨rfl, rfl, rfl, rfl, trivial⟩ ?_
    refine Runs.seq ?_
    refine Runs.block ?_
    refine Runs.rseq ?_
    refine RO.opv (v' := .d (.ptr _)) (opv_index_ints rfl rfl (by omega)) rfl ?_
    refine RO.opv (v' := .d (.int _ _)) (opv_load_ptr rfl rfl) rfl ?_
    refine RO.opv (v' := .d (.int _ _)) (opv_assign rfl) rfl ?_
    refine RO.nil ?_
    refine Runs.has [(3, .d (.int _ _)), (5, .d (.int _ _)), (6, .d (.list (ints _))), (7, .d (.int _ _)), (8, .d (.int _ _))] ⟨rfl, rfl, rfl, rfl, rfl, trivial⟩ ?_
    refine Runs.rseq ?_
    refine RO.opv (v' := .d (.int _ _)) (opv_move rfl) rfl ?_
    refine RO.opv (v' := .d (.int _ _)) (opv_move rfl) rfl ?_
    refine RO.opc (opv_bin rfl rfl rfl) (fun h2 => ?_) (fun h2 => ?_)
    · try simp only [Z.a, Z.b, Z.c, Z.d, Z.e, Z.f, Z.g, Z.h, Z.i, Z.j, Z.k, Z.l, Z.m] at h2
      have hx := h2
      refine RO.nil ?_
      refine Runs.condT rfl ?_
      refine Runs.has [(3, .d (.int _ _)), (5, .d (.int _ _)), (6, .d (.list (ints _))), (7, .d (.int _ _)), (8, .d (.int _ _))] ⟨rfl, rfl, rfl, rfl, rfl, trivial⟩ ?_
      refine Runs.rseq ?_
      refine RO.opv (v' := .d (.int _ _)) (opv_move rfl) rfl ?_
      refine RO.opv (v' := .d (.int _ _)) (opv_assign rfl) rfl ?_
      refine RO.nil ?_
      refine Runs.ret ?_
      refine blockQ_ret ?_
      refine thenQ_ret ?_
      refine thenQ_ret ?_
      refine blockQ_ret ?_
      refine thenQ_ret ?_
      refine EndQ.tmp (.inr rfl) rfl rfl 0 (by exact Nat.le_refl _) (by exact Nat.zero_le _) trivial ⟨?_, rfl⟩
      refine int_eq ?_; rw [hi.2, orI_drop hk, if_pos hx]
    · try simp only [Z.a, Z.b, Z.c, Z.d, Z.e, Z.f, Z.g, Z.h, Z.i, Z.j, Z.k, Z.l, Z.m] at h2
      have hx := h2
      refine RO.nil ?_
      refine Runs.condF rfl ?_
      refine Runs.skip ?_
      refine blockQ_normal ?_
      refine thenQ_normal ?_
      refine Runs.has [(3, .d (.int _ _)), (6, .d (.list (ints _))), (7, .d (.int _ _)), (8, .d (.int _ _))] ⟨rfl, rfl, rfl, rfl, trivial⟩ ?_
      refine Runs.region ?_
      refine RO.opv (v' := .d (.int _ _)) (opv_bin rfl rfl rfl) rfl ?_
      refine RO.opv (v' := .d (.int _ _)) (opv_move rfl) rfl ?_
      refine RO.nil ?_
      refine thenQ_normal ?_
      refine ⟨i + 1, 0, (by rw [hK]; exact Nat.le_of_ble_eq_true rfl), ⟨rfl, rfl, rfl, trivial⟩, ⟨?_, trivial⟩, rfl, ?_, ?_⟩
      · refine int_eq ?_; rw [wrap64 (by omega) (by omega)]; omega
      · refine ⟨by omega, ?_⟩
        rw [hi.2, orI_drop hk, if_neg (by omega)]
      · omega
  · try simp only [Z.a, Z.b, Z.c, Z.d, Z.e, Z.f, Z.g, Z.h, Z.i, Z.j, Z.k, Z.l, Z.m] at h1
    have hk : i = l.length := by omega
    refine RO.nil ?_
    refine Runs.seq ?_
    refine Runs.condF rfl ?_
    refine Runs.exit ?_
    refine thenQ_exit ?_
    refine thenQ_exit ?_
    refine blockQ_here ?_
    refine thenQ_normal ?_
    refine Runs.has [(3, .d (.int _ _))] ⟨rfl, trivial⟩ ?_
    refine Runs.rseq ?_
    refine RO.opv (v' := .d (.int _ _)) (opv_move rfl) rfl ?_
    refine RO.opv (v' := .d (.int _ _)) (opv_assign rfl) rfl ?_
    refine RO.nil ?_
    refine Runs.ret ?_
    refine EndQ.tmp (.inr rfl) rfl rfl 0 (by exact Nat.le_refl _) (by exact Nat.zero_le _) trivial ⟨?_, rfl⟩
    refine int_eq ?_; rw [hi.2, hk, List.drop_length]; rfl
theorem bare_aux  : ∀ (m : Nat) (a b : Term), a.size ≤ m → a.bulk ≤ 2 ^ 30 → b.bulk ≤ 2 ^ 30 → Fn Try.prog 42 [.d (enc a), .d (enc b)] [] (.d (.int .i64 (a.bare b))) [] := by
  intro m
  induction m with
  | zero => intro a b h; have := a.size_kids; omega
  | succ m ih =>
  intro a b hm hb hb'
  have hS := a.size_kids
  have hU := a.bulk_kids
  have hU' := b.bulk_kids
  have hL := bulks_len a.kids
  have hL' := bulks_len b.kids
  refine Does.run Try.func42 rfl Try.ntmps42 rfl fun K hK => ?_
  refine Runs.rseq ?_
  refine RO.opn (v' := .ref 0 0) (O' := [_]) (opv_box_term rfl) rfl rfl ?_
  refine RO.opn (v' := .ref 1 0) (O' := [_, _]) (opv_box_term rfl) rfl rfl ?_
  refine RO.opv (v' := .d (.int _ _)) (opv_assign rfl) rfl ?_
  refine RO.nil ?_
  refine Runs.scope0 ?_
  refine Runs.has [(2, .ref 0 0), (3, .ref 1 0), (4, .d (.int _ _))] ⟨rfl, rfl, rfl, trivial⟩ ?_
  refine Runs.seq ?_
  refine Runs.drawn (by kernel_rfl) [] [false, false, false, false, false, false, false, false, false, false, false, false, false, false, false, false, false, false, false, false, false, false, false, false, false] [false, false, false, false, false, false, false, false, false, false, false, false, false, false, false, false, false, false, false, false, false, false, false, false, false] (by decide +kernel) ?_
  refine RD.opv (v' := .ref 0 0) (opv_field_ref rfl rfl) rfl ?_
  refine RD.opv (v' := .d (.int _ _)) (opv_load_ref rfl rfl rfl) rfl ?_
  refine RD.opv (v' := .ref 1 0) (opv_field_ref rfl rfl) rfl ?_
  refine RD.opv (v' := .d (.int _ _)) (opv_load_ref rfl rfl rfl) rfl ?_
  refine RD.opv (v' := .d (.int _ _)) (opv_callF (cmpi_fn _ _) rfl rfl rfl trivial) rfl ?_
  refine RD.opv (v' := .ref 0 3) (opv_field_ref rfl rfl) rfl ?_
  refine RD.opv (v' := .d (.list (encs _))) (opv_load_ref rfl rfl rfl) rfl ?_
  refine RD.opv (v' := .d (.int _ _)) (opv_len_terms rfl) rfl ?_
  refine RD.opv (v' := .ref 1 3) (opv_field_ref rfl rfl) rfl ?_
  refine RD.opv (v' := .d (.list (encs _))) (opv_load_ref rfl rfl rfl) rfl ?_
  refine RD.opv (v' := .d (.int _ _)) (opv_len_terms rfl) rfl ?_
  refine RD.opv (v' := .d (.int _ _)) (opv_callF (cmpi_fn _ _) rfl rfl rfl trivial) rfl ?_
  refine RD.opv (v' := .ref 0 1) (opv_field_ref rfl rfl) rfl ?_
  refine RD.opv (v' := .d (.int _ _)) (opv_load_ref rfl rfl rfl) rfl ?_
  refine RD.opv (v' := .ref 1 1) (opv_field_ref rfl rfl) rfl ?_
  refine RD.opv (v' := .d (.int _ _)) (opv_load_ref rfl rfl rfl) rfl ?_
  refine RD.opv (v' := .d (.int _ _)) (opv_callF (cmpl_fn _ _) rfl rfl rfl trivial) rfl ?_
  refine RD.opv (v' := .ref 0 2) (opv_field_ref rfl rfl) rfl ?_
  refine RD.opv (v' := .d (.str _)) (opv_load_ref rfl rfl rfl) rfl ?_
  refine RD.opv (v' := .ref 1 2) (opv_field_ref rfl rfl) rfl ?_
  refine RD.opv (v' := .d (.str _)) (opv_load_ref rfl rfl rfl) rfl ?_
  refine RD.opv (v' := .d (.int _ _)) (opv_callF (cmps_fn _ _) rfl rfl rfl trivial) rfl ?_
  refine RD.opv (v' := .d (.list (ints _))) (opv_bs_int4 rfl rfl rfl rfl ) rfl ?_
  refine RD.opv (v' := .d (.int _ _)) (opv_callF (or_fn _ (Nat.le_of_ble_eq_true rfl)) rfl rfl rfl trivial) rfl ?_
  refine RD.opv (v' := .d (.int _ _)) (opv_assign rfl) rfl ?_
  refine RD.nil ?_
  refine thenQ_normal ?_
  refine Runs.has [(2, .ref 0 0), (3, .ref 1 0), (4, .d (.int _ _)), (5, .d (.int _ _))] ⟨rfl, rfl, rfl, rfl, trivial⟩ ?_
  refine Runs.seq ?_
  refine Runs.rseq ?_
  refine RO.opv (v' := .ref 0 0) (opv_field_ref rfl rfl) rfl ?_
  refine RO.opv (v' := .d (.int _ _)) (opv_load_ref rfl rfl rfl) rfl ?_
  refine RO.opv (v' := .ref 1 0) (opv_field_ref rfl rfl) rfl ?_
  refine RO.opv (v' := .d (.int _ _)) (opv_load_ref rfl rfl rfl) rfl ?_
  refine RO.opv (v' := .d (.bool _)) (opv_bin rfl rfl rfl) rfl ?_
  refine RO.opc (opv_move rfl) (fun h1 => ?_) (fun h1 => ?_)
  · try simp only [Z.a, Z.b, Z.c, Z.d, Z.e, Z.f, Z.g, Z.h, Z.i, Z.j, Z.k, Z.l, Z.m] at h1
    refine RO.opgv (v' := .ref 0 0) rfl (opv_field_ref rfl rfl) rfl ?_
    refine RO.opgv (v' := .d (.int _ _)) rfl (opv_load_ref rfl rfl rfl) rfl ?_
    refine RO.opgv (v' := .d (.bool _)) rfl (opv_bin rfl rfl rfl) rfl ?_
    refine RO.opgc rfl (opv_move rfl) (fun h2 => ?_) (fun h2 => ?_)
    · try simp only [Z.a, Z.b, Z.c, Z.d, Z.e, Z.f, Z.g, Z.h, Z.i, Z.j, Z.k, Z.l, Z.m] at h2
      refine RO.off rfl ?_
      refine RO.off rfl ?_
      refine RO.off rfl ?_
      refine RO.opgv (v' := .d (.bool true)) rfl (opv_pick rfl rfl) rfl ?_
      refine RO.opv (v' := .d (.bool true)) (opv_pick rfl rfl) rfl ?_
      refine RO.nil ?_
      refine Runs.condT rfl ?_
      refine Runs.has [(2, .ref 0 0), (3, .ref 1 0), (4, .d (.int _ _)), (5, .d (.int _ _))] ⟨rfl, rfl, rfl, rfl, trivial⟩ ?_
      refine Runs.region ?_
      refine RO.opv (v' := .ref 0 1) (opv_field_ref rfl rfl) rfl ?_
      refine RO.opv (v' := .d (.int _ _)) (opv_load_ref rfl rfl rfl) rfl ?_
      refine RO.opv (v' := .ref 1 1) (opv_field_ref rfl rfl) rfl ?_
      refine RO.opv (v' := .d (.int _ _)) (opv_load_ref rfl rfl rfl) rfl ?_
      refine RO.opv (v' := .d (.int _ _)) (opv_callF (cmpl_fn _ _) rfl rfl rfl trivial) rfl ?_
      refine RO.opv (v' := .d (.int _ _)) (opv_assign rfl) rfl ?_
      refine RO.nil ?_
      refine thenQ_normal ?_
      refine Runs.has [(2, .ref 0 0), (3, .ref 1 0), (4, .d (.int _ _)), (5, .d (.int _ _))] ⟨rfl, rfl, rfl, rfl, trivial⟩ ?_
      refine Runs.seq ?_
      refine Runs.rseq ?_
      refine RO.opv (v' := .ref 0 0) (opv_field_ref rfl rfl) rfl ?_
      refine RO.opv (v' := .d (.int _ _)) (opv_load_ref rfl rfl rfl) rfl ?_
      refine RO.opv (v' := .ref 1 0) (opv_field_ref rfl rfl) rfl ?_
      refine RO.opv (v' := .d (.int _ _)) (opv_load_ref rfl rfl rfl) rfl ?_
      refine RO.opv (v' := .d (.bool _)) (opv_bin rfl rfl rfl) rfl ?_
      refine RO.opc (opv_move rfl) (fun h3 => ?_) (fun h3 => ?_)
      · try simp only [Z.a, Z.b, Z.c, Z.d, Z.e, Z.f, Z.g, Z.h, Z.i, Z.j, Z.k, Z.l, Z.m] at h3
        refine RO.opgv (v' := .ref 0 0) rfl (opv_field_ref rfl rfl) rfl ?_
        refine RO.opgv (v' := .d (.int _ _)) rfl (opv_load_ref rfl rfl rfl) rfl ?_
        refine RO.opgv (v' := .d (.bool _)) rfl (opv_bin rfl rfl rfl) rfl ?_
        refine RO.opc (opv_pick rfl rfl) (fun h4 => ?_) (fun h4 => ?_)
        · try simp only [Z.a, Z.b, Z.c, Z.d, Z.e, Z.f, Z.g, Z.h, Z.i, Z.j, Z.k, Z.l, Z.m] at h4
          omega
        · try simp only [Z.a, Z.b, Z.c, Z.d, Z.e, Z.f, Z.g, Z.h, Z.i, Z.j, Z.k, Z.l, Z.m] at h4
          refine RO.nil ?_
          refine Runs.condF rfl ?_
          refine Runs.skip ?_
          refine thenQ_normal ?_
          refine Runs.has [(2, .ref 0 0), (3, .ref 1 0), (4, .d (.int _ _)), (5, .d (.int _ _))] ⟨rfl, rfl, rfl, rfl, trivial⟩ ?_
          refine Runs.seq ?_
          refine Runs.rseq ?_
          refine RO.opv (v' := .d (.int _ _)) (opv_move (v := .d (.int .i64 (headC a b))) (by refine int_eq ?_; first | exact (headC_num (by omega) (by omega)).symm | exact (headC_fun (by omega) (by omega)).symm | exact (headC_other (by omega)).symm)) rfl ?_
          refine RO.opv (v' := .d (.bool _)) (opv_bin rfl rfl rfl) rfl ?_
          refine RO.opc (opv_move rfl) (fun h5 => ?_) (fun h5 => ?_)
          · try simp only [Z.a, Z.b, Z.c, Z.d, Z.e, Z.f, Z.g, Z.h, Z.i, Z.j, Z.k, Z.l, Z.m] at h5
            have hz : headC a b ≠ 0 := h5
            refine RO.off rfl ?_
            refine RO.off rfl ?_
            refine RO.off rfl ?_
            refine RO.opv (v' := .d (.bool true)) (opv_pick rfl rfl) rfl ?_
            refine RO.opv (v' := .d (.bool true)) (opv_move rfl) rfl ?_
            refine RO.off rfl ?_
            refine RO.off rfl ?_
            refine RO.off rfl ?_
            refine RO.opv (v' := .d (.bool true)) (opv_pick rfl rfl) rfl ?_
            refine RO.nil ?_
            refine Runs.condT rfl ?_
            refine Runs.has [(2, .ref 0 0), (3, .ref 1 0), (4, .d (.int _ _)), (5, .d (.int _ _))] ⟨rfl, rfl, rfl, rfl, trivial⟩ ?_
            refine Runs.rseq ?_
            refine RO.opv (v' := .d (.int _ _)) (opv_move (v := .d (.int .i64 (headC a b))) (by refine int_eq ?_; first | exact (headC_num (by omega) (by omega)).symm | exact (headC_fun (by omega) (by omega)).symm | exact (headC_other (by omega)).symm)) rfl ?_
            refine RO.opv (v' := .d (.int _ _)) (opv_assign rfl) rfl ?_
            refine RO.nil ?_
            refine Runs.ret ?_
            refine thenQ_ret ?_
            refine scope0Q_ret ?_
            refine EndQ.tmp (.inr rfl) rfl rfl 0 (by exact Nat.le_refl _) (by exact Nat.zero_le _) trivial ⟨?_, rfl⟩
            refine int_eq ?_
            first
              | (rw [bare_eq a b, if_pos (.inl hz)]; done)
              | (rw [bare_eq a b, if_pos (.inr hq)]; done)
              | (rw [bare_eq a b, if_neg (fun hh => hh.elim (fun hh => hh hz) hq), hi.2, bares_drop hk (by omega), if_pos hx]; done)
              | (rw [bare_eq a b, if_neg (fun hh => hh.elim (fun hh => hh hz) hq), hi.2, hk, List.drop_length]; rfl)
          · try simp only [Z.a, Z.b, Z.c, Z.d, Z.e, Z.f, Z.g, Z.h, Z.i, Z.j, Z.k, Z.l, Z.m] at h5
            have hz : headC a b = 0 := by omega
            refine RO.opgv (v' := .ref 0 0) rfl (opv_field_ref rfl rfl) rfl ?_
            refine RO.opgv (v' := .d (.int _ _)) rfl (opv_load_ref rfl rfl rfl) rfl ?_
            refine RO.opgv (v' := .d (.bool _)) rfl (opv_bin rfl rfl rfl) rfl ?_
            refine RO.opv (v' := .d (.bool _)) (opv_pick rfl rfl) rfl ?_
            refine RO.opc (opv_move rfl) (fun h6 => ?_) (fun h6 => ?_)
            · try simp only [Z.a, Z.b, Z.c, Z.d, Z.e, Z.f, Z.g, Z.h, Z.i, Z.j, Z.k, Z.l, Z.m] at h6
              have hq : a.kind = 1 ∨ a.kind = 2 := .inl h6
              refine RO.off rfl ?_
              refine RO.off rfl ?_
              refine RO.off rfl ?_
              refine RO.opv (v' := .d (.bool true)) (opv_pick rfl rfl) rfl ?_
              refine RO.nil ?_
              refine Runs.condT rfl ?_
              refine Runs.has [(2, .ref 0 0), (3, .ref 1 0), (4, .d (.int _ _)), (5, .d (.int _ _))] ⟨rfl, rfl, rfl, rfl, trivial⟩ ?_
              refine Runs.rseq ?_
              refine RO.opv (v' := .d (.int _ _)) (opv_move (v := .d (.int .i64 (headC a b))) (by refine int_eq ?_; first | exact (headC_num (by omega) (by omega)).symm | exact (headC_fun (by omega) (by omega)).symm | exact (headC_other (by omega)).symm)) rfl ?_
              refine RO.opv (v' := .d (.int _ _)) (opv_assign rfl) rfl ?_
              refine RO.nil ?_
              refine Runs.ret ?_
              refine thenQ_ret ?_
              refine scope0Q_ret ?_
              refine EndQ.tmp (.inr rfl) rfl rfl 0 (by exact Nat.le_refl _) (by exact Nat.zero_le _) trivial ⟨?_, rfl⟩
              refine int_eq ?_
              first
                | (rw [bare_eq a b, if_pos (.inl hz)]; done)
                | (rw [bare_eq a b, if_pos (.inr hq)]; done)
                | (rw [bare_eq a b, if_neg (fun hh => hh.elim (fun hh => hh hz) hq), hi.2, bares_drop hk (by omega), if_pos hx]; done)
                | (rw [bare_eq a b, if_neg (fun hh => hh.elim (fun hh => hh hz) hq), hi.2, hk, List.drop_length]; rfl)
            · try simp only [Z.a, Z.b, Z.c, Z.d, Z.e, Z.f, Z.g, Z.h, Z.i, Z.j, Z.k, Z.l, Z.m] at h6
              omega
      · try simp only [Z.a, Z.b, Z.c, Z.d, Z.e, Z.f, Z.g, Z.h, Z.i, Z.j, Z.k, Z.l, Z.m] at h3
        omega
    · try simp only [Z.a, Z.b, Z.c, Z.d, Z.e, Z.f, Z.g, Z.h, Z.i, Z.j, Z.k, Z.l, Z.m] at h2
      refine RO.opgv (v' := .ref 0 0) rfl (opv_field_ref rfl rfl) rfl ?_
      refine RO.opgv (v' := .d (.int _ _)) rfl (opv_load_ref rfl rfl rfl) rfl ?_
      refine RO.opgv (v' := .d (.bool _)) rfl (opv_bin rfl rfl rfl) rfl ?_
      refine RO.opgv (v' := .d (.bool _)) rfl (opv_pick rfl rfl) rfl ?_
      refine RO.opc (opv_pick rfl rfl) (fun h7 => ?_) (fun h7 => ?_)
      · try simp only [Z.a, Z.b, Z.c, Z.d, Z.e, Z.f, Z.g, Z.h, Z.i, Z.j, Z.k, Z.l, Z.m] at h7
        refine RO.nil ?_
        refine Runs.condT rfl ?_
        refine Runs.has [(2, .ref 0 0), (3, .ref 1 0), (4, .d (.int _ _)), (5, .d (.int _ _))] ⟨rfl, rfl, rfl, rfl, trivial⟩ ?_
        refine Runs.region ?_
        refine RO.opv (v' := .ref 0 1) (opv_field_ref rfl rfl) rfl ?_
        refine RO.opv (v' := .d (.int _ _)) (opv_load_ref rfl rfl rfl) rfl ?_
        refine RO.opv (v' := .ref 1 1) (opv_field_ref rfl rfl) rfl ?_
        refine RO.opv (v' := .d (.int _ _)) (opv_load_ref rfl rfl rfl) rfl ?_
        refine RO.opv (v' := .d (.int _ _)) (opv_callF (cmpl_fn _ _) rfl rfl rfl trivial) rfl ?_
        refine RO.opv (v' := .d (.int _ _)) (opv_assign rfl) rfl ?_
        refine RO.nil ?_
        refine thenQ_normal ?_
        refine Runs.has [(2, .ref 0 0), (3, .ref 1 0), (4, .d (.int _ _)), (5, .d (.int _ _))] ⟨rfl, rfl, rfl, rfl, trivial⟩ ?_
        refine Runs.seq ?_
        refine Runs.rseq ?_
        refine RO.opv (v' := .ref 0 0) (opv_field_ref rfl rfl) rfl ?_
        refine RO.opv (v' := .d (.int _ _)) (opv_load_ref rfl rfl rfl) rfl ?_
        refine RO.opv (v' := .ref 1 0) (opv_field_ref rfl rfl) rfl ?_
        refine RO.opv (v' := .d (.int _ _)) (opv_load_ref rfl rfl rfl) rfl ?_
        refine RO.opv (v' := .d (.bool _)) (opv_bin rfl rfl rfl) rfl ?_
        refine RO.opc (opv_move rfl) (fun h8 => ?_) (fun h8 => ?_)
        · try simp only [Z.a, Z.b, Z.c, Z.d, Z.e, Z.f, Z.g, Z.h, Z.i, Z.j, Z.k, Z.l, Z.m] at h8
          refine RO.opgv (v' := .ref 0 0) rfl (opv_field_ref rfl rfl) rfl ?_
          refine RO.opgv (v' := .d (.int _ _)) rfl (opv_load_ref rfl rfl rfl) rfl ?_
          refine RO.opgv (v' := .d (.bool _)) rfl (opv_bin rfl rfl rfl) rfl ?_
          refine RO.opc (opv_pick rfl rfl) (fun h9 => ?_) (fun h9 => ?_)
          · try simp only [Z.a, Z.b, Z.c, Z.d, Z.e, Z.f, Z.g, Z.h, Z.i, Z.j, Z.k, Z.l, Z.m] at h9
            omega
          · try simp only [Z.a, Z.b, Z.c, Z.d, Z.e, Z.f, Z.g, Z.h, Z.i, Z.j, Z.k, Z.l, Z.m] at h9
            refine RO.nil ?_
            refine Runs.condF rfl ?_
            refine Runs.skip ?_
            refine thenQ_normal ?_
            refine Runs.has [(2, .ref 0 0), (3, .ref 1 0), (4, .d (.int _ _)), (5, .d (.int _ _))] ⟨rfl, rfl, rfl, rfl, trivial⟩ ?_
            refine Runs.seq ?_
            refine Runs.rseq ?_
            refine RO.opv (v' := .d (.int _ _)) (opv_move (v := .d (.int .i64 (headC a b))) (by refine int_eq ?_; first | exact (headC_num (by omega) (by omega)).symm | exact (headC_fun (by omega) (by omega)).symm | exact (headC_other (by omega)).symm)) rfl ?_
            refine RO.opv (v' := .d (.bool _)) (opv_bin rfl rfl rfl) rfl ?_
            refine RO.opc (opv_move rfl) (fun h10 => ?_) (fun h10 => ?_)
            · try simp only [Z.a, Z.b, Z.c, Z.d, Z.e, Z.f, Z.g, Z.h, Z.i, Z.j, Z.k, Z.l, Z.m] at h10
              have hz : headC a b ≠ 0 := h10
              refine RO.off rfl ?_
              refine RO.off rfl ?_
              refine RO.off rfl ?_
              refine RO.opv (v' := .d (.bool true)) (opv_pick rfl rfl) rfl ?_
              refine RO.opv (v' := .d (.bool true)) (opv_move rfl) rfl ?_
              refine RO.off rfl ?_
              refine RO.off rfl ?_
              refine RO.off rfl ?_
              refine RO.opv (v' := .d (.bool true)) (opv_pick rfl rfl) rfl ?_
              refine RO.nil ?_
              refine Runs.condT rfl ?_
              refine Runs.has [(2, .ref 0 0), (3, .ref 1 0), (4, .d (.int _ _)), (5, .d (.int _ _))] ⟨rfl, rfl, rfl, rfl, trivial⟩ ?_
              refine Runs.rseq ?_
              refine RO.opv (v' := .d (.int _ _)) (opv_move (v := .d (.int .i64 (headC a b))) (by refine int_eq ?_; first | exact (headC_num (by omega) (by omega)).symm | exact (headC_fun (by omega) (by omega)).symm | exact (headC_other (by omega)).symm)) rfl ?_
              refine RO.opv (v' := .d (.int _ _)) (opv_assign rfl) rfl ?_
              refine RO.nil ?_
              refine Runs.ret ?_
              refine thenQ_ret ?_
              refine scope0Q_ret ?_
              refine EndQ.tmp (.inr rfl) rfl rfl 0 (by exact Nat.le_refl _) (by exact Nat.zero_le _) trivial ⟨?_, rfl⟩
              refine int_eq ?_
              first
                | (rw [bare_eq a b, if_pos (.inl hz)]; done)
                | (rw [bare_eq a b, if_pos (.inr hq)]; done)
                | (rw [bare_eq a b, if_neg (fun hh => hh.elim (fun hh => hh hz) hq), hi.2, bares_drop hk (by omega), if_pos hx]; done)
                | (rw [bare_eq a b, if_neg (fun hh => hh.elim (fun hh => hh hz) hq), hi.2, hk, List.drop_length]; rfl)
            · try simp only [Z.a, Z.b, Z.c, Z.d, Z.e, Z.f, Z.g, Z.h, Z.i, Z.j, Z.k, Z.l, Z.m] at h10
              have hz : headC a b = 0 := by omega
              refine RO.opgv (v' := .ref 0 0) rfl (opv_field_ref rfl rfl) rfl ?_
              refine RO.opgv (v' := .d (.int _ _)) rfl (opv_load_ref rfl rfl rfl) rfl ?_
              refine RO.opgv (v' := .d (.bool _)) rfl (opv_bin rfl rfl rfl) rfl ?_
              refine RO.opv (v' := .d (.bool _)) (opv_pick rfl rfl) rfl ?_
              refine RO.opc (opv_move rfl) (fun h11 => ?_) (fun h11 => ?_)
              · try simp only [Z.a, Z.b, Z.c, Z.d, Z.e, Z.f, Z.g, Z.h, Z.i, Z.j, Z.k, Z.l, Z.m] at h11
                omega
              · try simp only [Z.a, Z.b, Z.c, Z.d, Z.e, Z.f, Z.g, Z.h, Z.i, Z.j, Z.k, Z.l, Z.m] at h11
                skip
                refine RO.opgv (v' := .ref 0 0) rfl (opv_field_ref rfl rfl) rfl ?_
                refine RO.opgv (v' := .d (.int _ _)) rfl (opv_load_ref rfl rfl rfl) rfl ?_
                refine RO.opgv (v' := .d (.bool _)) rfl (opv_bin rfl rfl rfl) rfl ?_
                refine RO.opc (opv_pick rfl rfl) (fun h12 => ?_) (fun h12 => ?_)
                · try simp only [Z.a, Z.b, Z.c, Z.d, Z.e, Z.f, Z.g, Z.h, Z.i, Z.j, Z.k, Z.l, Z.m] at h12
                  have hq : a.kind = 1 ∨ a.kind = 2 := .inr h12
                  refine RO.nil ?_
                  refine Runs.condT rfl ?_
                  refine Runs.has [(2, .ref 0 0), (3, .ref 1 0), (4, .d (.int _ _)), (5, .d (.int _ _))] ⟨rfl, rfl, rfl, rfl, trivial⟩ ?_
                  refine Runs.rseq ?_
                  refine RO.opv (v' := .d (.int _ _)) (opv_move (v := .d (.int .i64 (headC a b))) (by refine int_eq ?_; first | exact (headC_num (by omega) (by omega)).symm | exact (headC_fun (by omega) (by omega)).symm | exact (headC_other (by omega)).symm)) rfl ?_
                  refine RO.opv (v' := .d (.int _ _)) (opv_assign rfl) rfl ?_
                  refine RO.nil ?_
                  refine Runs.ret ?_
                  refine thenQ_ret ?_
                  refine scope0Q_ret ?_
                  refine EndQ.tmp (.inr rfl) rfl rfl 0 (by exact Nat.le_refl _) (by exact Nat.zero_le _) trivial ⟨?_, rfl⟩
                  refine int_eq ?_
                  first
                    | (rw [bare_eq a b, if_pos (.inl hz)]; done)
                    | (rw [bare_eq a b, if_pos (.inr hq)]; done)
                    | (rw [bare_eq a b, if_neg (fun hh => hh.elim (fun hh => hh hz) hq), hi.2, bares_drop hk (by omega), if_pos hx]; done)
                    | (rw [bare_eq a b, if_neg (fun hh => hh.elim (fun hh => hh hz) hq), hi.2, hk, List.drop_length]; rfl)
                · try simp only [Z.a, Z.b, Z.c, Z.d, Z.e, Z.f, Z.g, Z.h, Z.i, Z.j, Z.k, Z.l, Z.m] at h12
                  omega
        · try simp only [Z.a, Z.b, Z.c, Z.d, Z.e, Z.f, Z.g, Z.h, Z.i, Z.j, Z.k, Z.l, Z.m] at h8
          omega
      · try simp only [Z.a, Z.b, Z.c, Z.d, Z.e, Z.f, Z.g, Z.h, Z.i, Z.j, Z.k, Z.l, Z.m] at h7
        refine RO.nil ?_
        refine Runs.condF rfl ?_
        refine Runs.skip ?_
        refine thenQ_normal ?_
        refine Runs.has [(2, .ref 0 0), (3, .ref 1 0), (4, .d (.int _ _)), (5, .d (.int _ _))] ⟨rfl, rfl, rfl, rfl, trivial⟩ ?_
        refine Runs.seq ?_
        refine Runs.rseq ?_
        refine RO.opv (v' := .ref 0 0) (opv_field_ref rfl rfl) rfl ?_
        refine RO.opv (v' := .d (.int _ _)) (opv_load_ref rfl rfl rfl) rfl ?_
        refine RO.opv (v' := .ref 1 0) (opv_field_ref rfl rfl) rfl ?_
        refine RO.opv (v' := .d (.int _ _)) (opv_load_ref rfl rfl rfl) rfl ?_
        refine RO.opv (v' := .d (.bool _)) (opv_bin rfl rfl rfl) rfl ?_
        refine RO.opc (opv_move rfl) (fun h13 => ?_) (fun h13 => ?_)
        · try simp only [Z.a, Z.b, Z.c, Z.d, Z.e, Z.f, Z.g, Z.h, Z.i, Z.j, Z.k, Z.l, Z.m] at h13
          refine RO.opgv (v' := .ref 0 0) rfl (opv_field_ref rfl rfl) rfl ?_
          refine RO.opgv (v' := .d (.int _ _)) rfl (opv_load_ref rfl rfl rfl) rfl ?_
          refine RO.opgv (v' := .d (.bool _)) rfl (opv_bin rfl rfl rfl) rfl ?_
          refine RO.opc (opv_pick rfl rfl) (fun h14 => ?_) (fun h14 => ?_)
          · try simp only [Z.a, Z.b, Z.c, Z.d, Z.e, Z.f, Z.g, Z.h, Z.i, Z.j, Z.k, Z.l, Z.m] at h14
            refine RO.nil ?_
            refine Runs.condT rfl ?_
            refine Runs.has [(2, .ref 0 0), (3, .ref 1 0), (4, .d (.int _ _)), (5, .d (.int _ _))] ⟨rfl, rfl, rfl, rfl, trivial⟩ ?_
            refine Runs.drawn (by kernel_rfl) [] [false, false, false, false, false, false, false, false, false, false, false, false, false, false, false] [false, false, false, false, false, false, false, false, false, false, false, false, false, false, false] (by decide +kernel) ?_
            refine RD.opv (v' := .ref 0 3) (opv_field_ref rfl rfl) rfl ?_
            refine RD.opv (v' := .d (.list (encs _))) (opv_load_ref rfl rfl rfl) rfl ?_
            refine RD.opv (v' := .d (.int _ _)) (opv_len_terms rfl) rfl ?_
            refine RD.opv (v' := .ref 1 3) (opv_field_ref rfl rfl) rfl ?_
            refine RD.opv (v' := .d (.list (encs _))) (opv_load_ref rfl rfl rfl) rfl ?_
            refine RD.opv (v' := .d (.int _ _)) (opv_len_terms rfl) rfl ?_
            refine RD.opv (v' := .d (.int _ _)) (opv_callF (cmpi_fn _ _) rfl rfl rfl trivial) rfl ?_
            refine RD.opv (v' := .ref 0 2) (opv_field_ref rfl rfl) rfl ?_
            refine RD.opv (v' := .d (.str _)) (opv_load_ref rfl rfl rfl) rfl ?_
            refine RD.opv (v' := .ref 1 2) (opv_field_ref rfl rfl) rfl ?_
            refine RD.opv (v' := .d (.str _)) (opv_load_ref rfl rfl rfl) rfl ?_
            refine RD.opv (v' := .d (.int _ _)) (opv_callF (cmps_fn _ _) rfl rfl rfl trivial) rfl ?_
            refine RD.opv (v' := .d (.list (ints _))) (opv_bs_int2 rfl rfl ) rfl ?_
            refine RD.opv (v' := .d (.int _ _)) (opv_callF (or_fn _ (Nat.le_of_ble_eq_true rfl)) rfl rfl rfl trivial) rfl ?_
            refine RD.opv (v' := .d (.int _ _)) (opv_assign rfl) rfl ?_
            refine RD.nil ?_
            refine thenQ_normal ?_
            refine Runs.has [(2, .ref 0 0), (3, .ref 1 0), (4, .d (.int _ _)), (5, .d (.int _ _))] ⟨rfl, rfl, rfl, rfl, trivial⟩ ?_
            refine Runs.seq ?_
            refine Runs.rseq ?_
            refine RO.opv (v' := .d (.int _ _)) (opv_move (v := .d (.int .i64 (headC a b))) (by refine int_eq ?_; first | exact (headC_num (by omega) (by omega)).symm | exact (headC_fun (by omega) (by omega)).symm | exact (headC_other (by omega)).symm)) rfl ?_
            refine RO.opv (v' := .d (.bool _)) (opv_bin rfl rfl rfl) rfl ?_
            refine RO.opc (opv_move rfl) (fun h15 => ?_) (fun h15 => ?_)
            · try simp only [Z.a, Z.b, Z.c, Z.d, Z.e, Z.f, Z.g, Z.h, Z.i, Z.j, Z.k, Z.l, Z.m] at h15
              have hz : headC a b ≠ 0 := h15
              refine RO.off rfl ?_
              refine RO.off rfl ?_
              refine RO.off rfl ?_
              refine RO.opv (v' := .d (.bool true)) (opv_pick rfl rfl) rfl ?_
              refine RO.opv (v' := .d (.bool true)) (opv_move rfl) rfl ?_
              refine RO.off rfl ?_
              refine RO.off rfl ?_
              refine RO.off rfl ?_
              refine RO.opv (v' := .d (.bool true)) (opv_pick rfl rfl) rfl ?_
              refine RO.nil ?_
              refine Runs.condT rfl ?_
              refine Runs.has [(2, .ref 0 0), (3, .ref 1 0), (4, .d (.int _ _)), (5, .d (.int _ _))] ⟨rfl, rfl, rfl, rfl, trivial⟩ ?_
              refine Runs.rseq ?_
              refine RO.opv (v' := .d (.int _ _)) (opv_move (v := .d (.int .i64 (headC a b))) (by refine int_eq ?_; first | exact (headC_num (by omega) (by omega)).symm | exact (headC_fun (by omega) (by omega)).symm | exact (headC_other (by omega)).symm)) rfl ?_
              refine RO.opv (v' := .d (.int _ _)) (opv_assign rfl) rfl ?_
              refine RO.nil ?_
              refine Runs.ret ?_
              refine thenQ_ret ?_
              refine scope0Q_ret ?_
              refine EndQ.tmp (.inr rfl) rfl rfl 0 (by exact Nat.le_refl _) (by exact Nat.zero_le _) trivial ⟨?_, rfl⟩
              refine int_eq ?_
              first
                | (rw [bare_eq a b, if_pos (.inl hz)]; done)
                | (rw [bare_eq a b, if_pos (.inr hq)]; done)
                | (rw [bare_eq a b, if_neg (fun hh => hh.elim (fun hh => hh hz) hq), hi.2, bares_drop hk (by omega), if_pos hx]; done)
                | (rw [bare_eq a b, if_neg (fun hh => hh.elim (fun hh => hh hz) hq), hi.2, hk, List.drop_length]; rfl)
            · try simp only [Z.a, Z.b, Z.c, Z.d, Z.e, Z.f, Z.g, Z.h, Z.i, Z.j, Z.k, Z.l, Z.m] at h15
              have hz : headC a b = 0 := by omega
              refine RO.opgv (v' := .ref 0 0) rfl (opv_field_ref rfl rfl) rfl ?_
              refine RO.opgv (v' := .d (.int _ _)) rfl (opv_load_ref rfl rfl rfl) rfl ?_
              refine RO.opgv (v' := .d (.bool _)) rfl (opv_bin rfl rfl rfl) rfl ?_
              refine RO.opv (v' := .d (.bool _)) (opv_pick rfl rfl) rfl ?_
              refine RO.opc (opv_move rfl) (fun h16 => ?_) (fun h16 => ?_)
              · try simp only [Z.a, Z.b, Z.c, Z.d, Z.e, Z.f, Z.g, Z.h, Z.i, Z.j, Z.k, Z.l, Z.m] at h16
                omega
              · try simp only [Z.a, Z.b, Z.c, Z.d, Z.e, Z.f, Z.g, Z.h, Z.i, Z.j, Z.k, Z.l, Z.m] at h16
                skip
                refine RO.opgv (v' := .ref 0 0) rfl (opv_field_ref rfl rfl) rfl ?_
                refine RO.opgv (v' := .d (.int _ _)) rfl (opv_load_ref rfl rfl rfl) rfl ?_
                refine RO.opgv (v' := .d (.bool _)) rfl (opv_bin rfl rfl rfl) rfl ?_
                refine RO.opc (opv_pick rfl rfl) (fun h17 => ?_) (fun h17 => ?_)
                · try simp only [Z.a, Z.b, Z.c, Z.d, Z.e, Z.f, Z.g, Z.h, Z.i, Z.j, Z.k, Z.l, Z.m] at h17
                  omega
                · try simp only [Z.a, Z.b, Z.c, Z.d, Z.e, Z.f, Z.g, Z.h, Z.i, Z.j, Z.k, Z.l, Z.m] at h17
                  have hq : ¬ (a.kind = 1 ∨ a.kind = 2) := by omega
                  have hlm := head_len hz hq
                  refine RO.nil ?_
                  refine Runs.condF rfl ?_
                  refine Runs.skip ?_
                  refine thenQ_normal ?_
                  refine Runs.has [(2, .ref 0 0), (3, .ref 1 0), (4, .d (.int _ _)), (5, .d (.int _ _))] ⟨rfl, rfl, rfl, rfl, trivial⟩ ?_
                  refine Runs.seq ?_
                  refine Runs.label ?_
                  refine thenQ_normal ?_
                  refine Runs.seq ?_
                  refine Runs.rseq ?_
                  refine RO.opv (v' := .ref 0 3) (opv_field_ref rfl rfl) rfl ?_
                  refine RO.opv (v' := .d (.list (encs _))) (opv_load_ref rfl rfl rfl) rfl ?_
                  refine RO.opv (v' := .d (.int _ _)) (opv_len_terms rfl) rfl ?_
                  refine RO.opv (v' := .d (.int _ _)) (opv_move rfl) rfl ?_
                  refine RO.nil ?_
                  refine Runs.block ?_
                  refine Runs.loopC (X := Nat) (fun i => i ≤ a.kids.length ∧ bares a.kids b.kids = bares (a.kids.drop i) (b.kids.drop i)) (fun i => a.kids.length - i) [(2, .ref 0 0), (3, .ref 1 0), (4, .d (.int _ _)), (90, .d (.int _ _))] (fun i => [(5, .d (.int .i64 0)), (91, .d (.int .i64 (i : Nat)))]) [_, _] (fun i => []) (0) ⟨rfl, rfl, rfl, rfl, trivial⟩ ⟨(by refine int_eq (Eq.trans ?_ hz); first | exact (headC_num (by omega) (by omega)).symm | exact (headC_fun (by omega) (by omega)).symm | exact (headC_other (by omega)).symm), rfl, trivial⟩ rfl ⟨Nat.zero_le _, rfl⟩ fun i hi => ?_
                  refine Runs.rseq ?_
                  refine RO.opc (opv_bin rfl rfl rfl) (fun h18 => ?_) (fun h18 => ?_)
                  · try simp only [Z.a, Z.b, Z.c, Z.d, Z.e, Z.f, Z.g, Z.h, Z.i, Z.j, Z.k, Z.l, Z.m] at h18
                    have hk : i < a.kids.length := by omega
                    refine RO.nil ?_
                    refine Runs.seq ?_
                    refine Runs.condT rfl ?_
                    refine Runs.skip ?_
                    refine thenQ_normal ?_
                    refine Runs.has [(2, .ref 0 0), (3, .ref 1 0), (4, .d (.int _ _)), (5, .d (.int _ _)), (90, .d (.int _ _)), (91, .d (.int _ _))] ⟨rfl, rfl, rfl, rfl, rfl, rfl, trivial⟩ ?_
                    refine Runs.seq ?_
                    refine Runs.block ?_
                    refine Runs.rseq ?_
                    refine RO.opv (v' := .d (.int _ _)) (opv_move rfl) rfl ?_
                    refine RO.opv (v' := .d (.int _ _)) (opv_assign rfl) rfl ?_
                    refine RO.nil ?_
                    refine Runs.has [(2, .ref 0 0), (3, .ref 1 0), (4, .d (.int _ _)), (5, .d (.int _ _)), (6, .d (.int _ _)), (90, .d (.int _ _)), (91, .d (.int _ _))] ⟨rfl, rfl, rfl, rfl, rfl, rfl, rfl, trivial⟩ ?_
                    refine Runs.seq ?_
                    refine Runs.drawn (by kernel_rfl) [] [false, false, false, false, false, false, false, false, false, false, false, false] [false, false, false, false, false, false, false, false, false, false, false, false] (by decide +kernel) ?_
                    refine RD.opv (v' := .ref 0 3) (opv_field_ref rfl rfl) rfl ?_
                    refine RD.opv (v' := .d (.list (encs _))) (opv_load_ref rfl rfl rfl) rfl ?_
                    refine RD.opv (v' := .d (.int _ _)) (opv_move rfl) rfl ?_
                    refine RD.opv (v' := .d (.ptr _)) (opv_index_terms rfl rfl (by omega)) rfl ?_
                    refine RD.opv (v' := .d (enc _)) (opv_load_pterm rfl) rfl ?_
                    refine RD.opv (v' := .ref 1 3) (opv_field_ref rfl rfl) rfl ?_
                    refine RD.opv (v' := .d (.list (encs _))) (opv_load_ref rfl rfl rfl) rfl ?_
                    refine RD.opv (v' := .d (.int _ _)) (opv_move rfl) rfl ?_
                    refine RD.opv (v' := .d (.ptr _)) (opv_index_terms rfl rfl (by omega)) rfl ?_
                    refine RD.opv (v' := .d (enc _)) (opv_load_pterm rfl) rfl ?_
                    refine RD.opv (v' := .d (.int _ _)) (opv_callF (ih a.kids[i] b.kids[i] (by have := sizes_mem (List.getElem_mem hk); omega) (by have := bulks_mem (List.getElem_mem hk); omega) (by have := bulks_mem (List.getElem_mem (l := b.kids) (n := i) (by omega)); omega)) rfl rfl rfl trivial) rfl ?_
                    refine RD.opv (v' := .d (.int _ _)) (opv_assign rfl) rfl ?_
                    refine RD.nil ?_
                    refine thenQ_normal ?_
                    refine Runs.has [(2, .ref 0 0), (3, .ref 1 0), (4, .d (.int _ _)), (5, .d (.int _ _)), (90, .d (.int _ _)), (91, .d (.int _ _))] ⟨rfl, rfl, rfl, rfl, rfl, rfl, trivial⟩ ?_
                    refine Runs.rseq ?_
                    refine RO.opv (v' := .d (.int _ _)) (opv_move rfl) rfl ?_
                    refine RO.nil ?_
                    refine Runs.block ?_
                    refine Runs.rseq ?_
                    refine RO.opv (v' := .d (.bool _)) (opv_bin rfl rfl rfl) rfl ?_
                    refine RO.opc (opv_assign rfl) (fun h19 => ?_) (fun h19 => ?_)
                    · try simp only [Z.a, Z.b, Z.c, Z.d, Z.e, Z.f, Z.g, Z.h, Z.i, Z.j, Z.k, Z.l, Z.m] at h19
                      have hx := h19
                      refine RO.nil ?_
                      refine Runs.condT rfl ?_
                      refine Runs.exit ?_
                      refine blockQ_on ?_
                      refine blockQ_here ?_
                      refine thenQ_normal ?_
                      refine Runs.has [(2, .ref 0 0), (3, .ref 1 0), (4, .d (.int _ _)), (5, .d (.int _ _)), (90, .d (.int _ _)), (91, .d (.int _ _))] ⟨rfl, rfl, rfl, rfl, rfl, rfl, trivial⟩ ?_
                      refine Runs.region ?_
                      refine RO.opv (v' := .d (.int _ _)) (opv_bin rfl rfl rfl) rfl ?_
                      refine RO.opv (v' := .d (.int _ _)) (opv_move rfl) rfl ?_
                      refine RO.nil ?_
                      refine thenQ_normal ?_
                      refine ⟨i + 1, 2, (by rw [hK]; exact Nat.le_of_ble_eq_true rfl), ⟨rfl, rfl, rfl, rfl, trivial⟩, ⟨?_, ?_, trivial⟩, rfl, ?_, ?_⟩
                      · refine int_eq ?_; exact hx
                      · refine int_eq ?_; rw [wrap64 (by omega) (by omega)]; omega
                      · refine ⟨by omega, ?_⟩
                        rw [hi.2, bares_drop hk (by omega), if_neg (fun hh => hh hx)]
                      · omega
                    · try simp only [Z.a, Z.b, Z.c, Z.d, Z.e, Z.f, Z.g, Z.h, Z.i, Z.j, Z.k, Z.l, Z.m] at h19
                      have hx := h19
                      refine RO.nil ?_
                      refine Runs.condF rfl ?_
                      refine Runs.exit ?_
                      refine blockQ_on ?_
                      refine blockQ_on ?_
                      refine thenQ_exit ?_
                      refine thenQ_exit ?_
                      refine blockQ_here ?_
                      refine thenQ_normal ?_
                      refine Runs.has [(4, .d (.int _ _)), (5, .d (.int _ _))] ⟨rfl, rfl, trivial⟩ ?_
                      refine Runs.rseq ?_
                      refine RO.opv (v' := .d (.int _ _)) (opv_move rfl) rfl ?_
                      refine RO.opv (v' := .d (.int _ _)) (opv_assign rfl) rfl ?_
                      refine RO.nil ?_
                      refine Runs.ret ?_
                      refine scope0Q_ret ?_
                      refine EndQ.tmp (.inr rfl) rfl rfl 0 (by exact Nat.le_refl _) (by exact Nat.zero_le _) trivial ⟨?_, rfl⟩
                      refine int_eq ?_
                      first
                        | (rw [bare_eq a b, if_pos (.inl hz)]; done)
                        | (rw [bare_eq a b, if_pos (.inr hq)]; done)
                        | (rw [bare_eq a b, if_neg (fun hh => hh.elim (fun hh => hh hz) hq), hi.2, bares_drop hk (by omega), if_pos hx]; done)
                        | (rw [bare_eq a b, if_neg (fun hh => hh.elim (fun hh => hh hz) hq), hi.2, hk, List.drop_length]; rfl)
                  · try simp only [Z.a, Z.b, Z.c, Z.d, Z.e, Z.f, Z.g, Z.h, Z.i, Z.j, Z.k, Z.l, Z.m] at h18
                    have hk : i = a.kids.length := by omega
                    refine RO.nil ?_
                    refine Runs.seq ?_
                    refine Runs.condF rfl ?_
                    refine Runs.exit ?_
                    refine thenQ_exit ?_
                    refine thenQ_exit ?_
                    refine blockQ_here ?_
                    refine thenQ_normal ?_
                    refine Runs.has [(4, .d (.int _ _)), (5, .d (.int _ _))] ⟨rfl, rfl, trivial⟩ ?_
                    refine Runs.rseq ?_
                    refine RO.opv (v' := .d (.int _ _)) (opv_move rfl) rfl ?_
                    refine RO.opv (v' := .d (.int _ _)) (opv_assign rfl) rfl ?_
                    refine RO.nil ?_
                    refine Runs.ret ?_
                    refine scope0Q_ret ?_
                    refine EndQ.tmp (.inr rfl) rfl rfl 0 (by exact Nat.le_refl _) (by exact Nat.zero_le _) trivial ⟨?_, rfl⟩
                    refine int_eq ?_
                    first
                      | (rw [bare_eq a b, if_pos (.inl hz)]; done)
                      | (rw [bare_eq a b, if_pos (.inr hq)]; done)
                      | (rw [bare_eq a b, if_neg (fun hh => hh.elim (fun hh => hh hz) hq), hi.2, bares_drop hk (by omega), if_pos hx]; done)
                      | (rw [bare_eq a b, if_neg (fun hh => hh.elim (fun hh => hh hz) hq), hi.2, hk, List.drop_length]; rfl)
          · try simp only [Z.a, Z.b, Z.c, Z.d, Z.e, Z.f, Z.g, Z.h, Z.i, Z.j, Z.k, Z.l, Z.m] at h14
            refine RO.nil ?_
            refine Runs.condF rfl ?_
            refine Runs.skip ?_
            refine thenQ_normal ?_
            refine Runs.has [(2, .ref 0 0), (3, .ref 1 0), (4, .d (.int _ _)), (5, .d (.int _ _))] ⟨rfl, rfl, rfl, rfl, trivial⟩ ?_
            refine Runs.seq ?_
            refine Runs.rseq ?_
            refine RO.opv (v' := .d (.int _ _)) (opv_move (v := .d (.int .i64 (headC a b))) (by refine int_eq ?_; first | exact (headC_num (by omega) (by omega)).symm | exact (headC_fun (by omega) (by omega)).symm | exact (headC_other (by omega)).symm)) rfl ?_
            refine RO.opv (v' := .d (.bool _)) (opv_bin rfl rfl rfl) rfl ?_
            refine RO.opc (opv_move rfl) (fun h20 => ?_) (fun h20 => ?_)
            · try simp only [Z.a, Z.b, Z.c, Z.d, Z.e, Z.f, Z.g, Z.h, Z.i, Z.j, Z.k, Z.l, Z.m] at h20
              have hz : headC a b ≠ 0 := h20
              refine RO.off rfl ?_
              refine RO.off rfl ?_
              refine RO.off rfl ?_
              refine RO.opv (v' := .d (.bool true)) (opv_pick rfl rfl) rfl ?_
              refine RO.opv (v' := .d (.bool true)) (opv_move rfl) rfl ?_
              refine RO.off rfl ?_
              refine RO.off rfl ?_
              refine RO.off rfl ?_
              refine RO.opv (v' := .d (.bool true)) (opv_pick rfl rfl) rfl ?_
              refine RO.nil ?_
              refine Runs.condT rfl ?_
              refine Runs.has [(2, .ref 0 0), (3, .ref 1 0), (4, .d (.int _ _)), (5, .d (.int _ _))] ⟨rfl, rfl, rfl, rfl, trivial⟩ ?_
              refine Runs.rseq ?_
              refine RO.opv (v' := .d (.int _ _)) (opv_move (v := .d (.int .i64 (headC a b))) (by refine int_eq ?_; first | exact (headC_num (by omega) (by omega)).symm | exact (headC_fun (by omega) (by omega)).symm | exact (headC_other (by omega)).symm)) rfl ?_
              refine RO.opv (v' := .d (.int _ _)) (opv_assign rfl) rfl ?_
              refine RO.nil ?_
              refine Runs.ret ?_
              refine thenQ_ret ?_
              refine scope0Q_ret ?_
              refine EndQ.tmp (.inr rfl) rfl rfl 0 (by exact Nat.le_refl _) (by exact Nat.zero_le _) trivial ⟨?_, rfl⟩
              refine int_eq ?_
              first
                | (rw [bare_eq a b, if_pos (.inl hz)]; done)
                | (rw [bare_eq a b, if_pos (.inr hq)]; done)
                | (rw [bare_eq a b, if_neg (fun hh => hh.elim (fun hh => hh hz) hq), hi.2, bares_drop hk (by omega), if_pos hx]; done)
                | (rw [bare_eq a b, if_neg (fun hh => hh.elim (fun hh => hh hz) hq), hi.2, hk, List.drop_length]; rfl)
            · try simp only [Z.a, Z.b, Z.c, Z.d, Z.e, Z.f, Z.g, Z.h, Z.i, Z.j, Z.k, Z.l, Z.m] at h20
              have hz : headC a b = 0 := by omega
              refine RO.opgv (v' := .ref 0 0) rfl (opv_field_ref rfl rfl) rfl ?_
              refine RO.opgv (v' := .d (.int _ _)) rfl (opv_load_ref rfl rfl rfl) rfl ?_
              refine RO.opgv (v' := .d (.bool _)) rfl (opv_bin rfl rfl rfl) rfl ?_
              refine RO.opv (v' := .d (.bool _)) (opv_pick rfl rfl) rfl ?_
              refine RO.opc (opv_move rfl) (fun h21 => ?_) (fun h21 => ?_)
              · try simp only [Z.a, Z.b, Z.c, Z.d, Z.e, Z.f, Z.g, Z.h, Z.i, Z.j, Z.k, Z.l, Z.m] at h21
                omega
              · try simp only [Z.a, Z.b, Z.c, Z.d, Z.e, Z.f, Z.g, Z.h, Z.i, Z.j, Z.k, Z.l, Z.m] at h21
                skip
                refine RO.opgv (v' := .ref 0 0) rfl (opv_field_ref rfl rfl) rfl ?_
                refine RO.opgv (v' := .d (.int _ _)) rfl (opv_load_ref rfl rfl rfl) rfl ?_
                refine RO.opgv (v' := .d (.bool _)) rfl (opv_bin rfl rfl rfl) rfl ?_
                refine RO.opc (opv_pick rfl rfl) (fun h22 => ?_) (fun h22 => ?_)
                · try simp only [Z.a, Z.b, Z.c, Z.d, Z.e, Z.f, Z.g, Z.h, Z.i, Z.j, Z.k, Z.l, Z.m] at h22
                  omega
                · try simp only [Z.a, Z.b, Z.c, Z.d, Z.e, Z.f, Z.g, Z.h, Z.i, Z.j, Z.k, Z.l, Z.m] at h22
                  have hq : ¬ (a.kind = 1 ∨ a.kind = 2) := by omega
                  have hlm := head_len hz hq
                  refine RO.nil ?_
                  refine Runs.condF rfl ?_
                  refine Runs.skip ?_
                  refine thenQ_normal ?_
                  refine Runs.has [(2, .ref 0 0), (3, .ref 1 0), (4, .d (.int _ _)), (5, .d (.int _ _))] ⟨rfl, rfl, rfl, rfl, trivial⟩ ?_
                  refine Runs.seq ?_
                  refine Runs.label ?_
                  refine thenQ_normal ?_
                  refine Runs.seq ?_
                  refine Runs.rseq ?_
                  refine RO.opv (v' := .ref 0 3) (opv_field_ref rfl rfl) rfl ?_
                  refine RO.opv (v' := .d (.list (encs _))) (opv_load_ref rfl rfl rfl) rfl ?_
                  refine RO.opv (v' := .d (.int _ _)) (opv_len_terms rfl) rfl ?_
                  refine RO.opv (v' := .d (.int _ _)) (opv_move rfl) rfl ?_
                  refine RO.nil ?_
                  refine Runs.block ?_
                  refine Runs.loopC (X := Nat) (fun i => i ≤ a.kids.length ∧ bares a.kids b.kids = bares (a.kids.drop i) (b.kids.drop i)) (fun i => a.kids.length - i) [(2, .ref 0 0), (3, .ref 1 0), (4, .d (.int _ _)), (90, .d (.int _ _))] (fun i => [(5, .d (.int .i64 0)), (91, .d (.int .i64 (i : Nat)))]) [_, _] (fun i => []) (0) ⟨rfl, rfl, rfl, rfl, trivial⟩ ⟨(by refine int_eq (Eq.trans ?_ hz); first | exact (headC_num (by omega) (by omega)).symm | exact (headC_fun (by omega) (by omega)).symm | exact (headC_other (by omega)).symm), rfl, trivial⟩ rfl ⟨Nat.zero_le _, rfl⟩ fun i hi => ?_
                  refine Runs.rseq ?_
                  refine RO.opc (opv_bin rfl rfl rfl) (fun h23 => ?_) (fun h23 => ?_)
                  · try simp only [Z.a, Z.b, Z.c, Z.d, Z.e, Z.f, Z.g, Z.h, Z.i, Z.j, Z.k, Z.l, Z.m] at h23
                    have hk : i < a.kids.length := by omega
                    refine RO.nil ?_
                    refine Runs.seq ?_
                    refine Runs.condT rfl ?_
                    refine Runs.skip ?_
                    refine thenQ_normal ?_
                    refine Runs.has [(2, .ref 0 0), (3, .ref 1 0), (4, .d (.int _ _)), (5, .d (.int _ _)), (90, .d (.int _ _)), (91, .d (.int _ _))] ⟨rfl, rfl, rfl, rfl, rfl, rfl, trivial⟩ ?_
                    refine Runs.seq ?_
                    refine Runs.block ?_
                    refine Runs.rseq ?_
                    refine RO.opv (v' := .d (.int _ _)) (opv_move rfl) rfl ?_
                    refine RO.opv (v' := .d (.int _ _)) (opv_assign rfl) rfl ?_
                    refine RO.nil ?_
                    refine Runs.has [(2, .ref 0 0), (3, .ref 1 0), (4, .d (.int _ _)), (5, .d (.int _ _)), (6, .d (.int _ _)), (90, .d (.int _ _)), (91, .d (.int _ _))] ⟨rfl, rfl, rfl, rfl, rfl, rfl, rfl, trivial⟩ ?_
                    refine Runs.seq ?_
                    refine Runs.drawn (by kernel_rfl) [] [false, false, false, false, false, false, false, false, false, false, false, false] [false, false, false, false, false, false, false, false, false, false, false, false] (by decide +kernel) ?_
                    refine RD.opv (v' := .ref 0 3) (opv_field_ref rfl rfl) rfl ?_
                    refine RD.opv (v' := .d (.list (encs _))) (opv_load_ref rfl rfl rfl) rfl ?_
                    refine RD.opv (v' := .d (.int _ _)) (opv_move rfl) rfl ?_
                    refine RD.opv (v' := .d (.ptr _)) (opv_index_terms rfl rfl (by omega)) rfl ?_
                    refine RD.opv (v' := .d (enc _)) (opv_load_pterm rfl) rfl ?_
                    refine RD.opv (v' := .ref 1 3) (opv_field_ref rfl rfl) rfl ?_
                    refine RD.opv (v' := .d (.list (encs _))) (opv_load_ref rfl rfl rfl) rfl ?_
                    refine RD.opv (v' := .d (.int _ _)) (opv_move rfl) rfl ?_
                    refine RD.opv (v' := .d (.ptr _)) (opv_index_terms rfl rfl (by omega)) rfl ?_
                    refine RD.opv (v' := .d (enc _)) (opv_load_pterm rfl) rfl ?_
                    refine RD.opv (v' := .d (.int _ _)) (opv_callF (ih a.kids[i] b.kids[i] (by have := sizes_mem (List.getElem_mem hk); omega) (by have := bulks_mem (List.getElem_mem hk); omega) (by have := bulks_mem (List.getElem_mem (l := b.kids) (n := i) (by omega)); omega)) rfl rfl rfl trivial) rfl ?_
                    refine RD.opv (v' := .d (.int _ _)) (opv_assign rfl) rfl ?_
                    refine RD.nil ?_
                    refine thenQ_normal ?_
                    refine Runs.has [(2, .ref 0 0), (3, .ref 1 0), (4, .d (.int _ _)), (5, .d (.int _ _)), (90, .d (.int _ _)), (91, .d (.int _ _))] ⟨rfl, rfl, rfl, rfl, rfl, rfl, trivial⟩ ?_
                    refine Runs.rseq ?_
                    refine RO.opv (v' := .d (.int _ _)) (opv_move rfl) rfl ?_
                    refine RO.nil ?_
                    refine Runs.block ?_
                    refine Runs.rseq ?_
                    refine RO.opv (v' := .d (.bool _)) (opv_bin rfl rfl rfl) rfl ?_
                    refine RO.opc (opv_assign rfl) (fun h24 => ?_) (fun h24 => ?_)
                    · try simp only [Z.a, Z.b, Z.c, Z.d, Z.e, Z.f, Z.g, Z.h, Z.i, Z.j, Z.k, Z.l, Z.m] at h24
                      have hx := h24
                      refine RO.nil ?_
                      refine Runs.condT rfl ?_
                      refine Runs.exit ?_
                      refine blockQ_on ?_
                      refine blockQ_here ?_
                      refine thenQ_normal ?_
                      refine Runs.has [(2, .ref 0 0), (3, .ref 1 0), (4, .d (.int _ _)), (5, .d (.int _ _)), (90, .d (.int _ _)), (91, .d (.int _ _))] ⟨rfl, rfl, rfl, rfl, rfl, rfl, trivial⟩ ?_
                      refine Runs.region ?_
                      refine RO.opv (v' := .d (.int _ _)) (opv_bin rfl rfl rfl) rfl ?_
                      refine RO.opv (v' := .d (.int _ _)) (opv_move rfl) rfl ?_
                      refine RO.nil ?_
                      refine thenQ_normal ?_
                      refine ⟨i + 1, 2, (by rw [hK]; exact Nat.le_of_ble_eq_true rfl), ⟨rfl, rfl, rfl, rfl, trivial⟩, ⟨?_, ?_, trivial⟩, rfl, ?_, ?_⟩
                      · refine int_eq ?_; exact hx
                      · refine int_eq ?_; rw [wrap64 (by omega) (by omega)]; omega
                      · refine ⟨by omega, ?_⟩
                        rw [hi.2, bares_drop hk (by omega), if_neg (fun hh => hh hx)]
                      · omega
                    · try simp only [Z.a, Z.b, Z.c, Z.d, Z.e, Z.f, Z.g, Z.h, Z.i, Z.j, Z.k, Z.l, Z.m] at h24
                      have hx := h24
                      refine RO.nil ?_
                      refine Runs.condF rfl ?_
                      refine Runs.exit ?_
                      refine blockQ_on ?_
                      refine blockQ_on ?_
                      refine thenQ_exit ?_
                      refine thenQ_exit ?_
                      refine blockQ_here ?_
                      refine thenQ_normal ?_
                      refine Runs.has [(4, .d (.int _ _)), (5, .d (.int _ _))] ⟨rfl, rfl, trivial⟩ ?_
                      refine Runs.rseq ?_
                      refine RO.opv (v' := .d (.int _ _)) (opv_move rfl) rfl ?_
                      refine RO.opv (v' := .d (.int _ _)) (opv_assign rfl) rfl ?_
                      refine RO.nil ?_
                      refine Runs.ret ?_
                      refine scope0Q_ret ?_
                      refine EndQ.tmp (.inr rfl) rfl rfl 0 (by exact Nat.le_refl _) (by exact Nat.zero_le _) trivial ⟨?_, rfl⟩
                      refine int_eq ?_
                      first
                        | (rw [bare_eq a b, if_pos (.inl hz)]; done)
                        | (rw [bare_eq a b, if_pos (.inr hq)]; done)
                        | (rw [bare_eq a b, if_neg (fun hh => hh.elim (fun hh => hh hz) hq), hi.2, bares_drop hk (by omega), if_pos hx]; done)
                        | (rw [bare_eq a b, if_neg (fun hh => hh.elim (fun hh => hh hz) hq), hi.2, hk, List.drop_length]; rfl)
                  · try simp only [Z.a, Z.b, Z.c, Z.d, Z.e, Z.f, Z.g, Z.h, Z.i, Z.j, Z.k, Z.l, Z.m] at h23
                    have hk : i = a.kids.length := by omega
                    refine RO.nil ?_
                    refine Runs.seq ?_
                    refine Runs.condF rfl ?_
                    refine Runs.exit ?_
                    refine thenQ_exit ?_
                    refine thenQ_exit ?_
                    refine blockQ_here ?_
                    refine thenQ_normal ?_
                    refine Runs.has [(4, .d (.int _ _)), (5, .d (.int _ _))] ⟨rfl, rfl, trivial⟩ ?_
                    refine Runs.rseq ?_
                    refine RO.opv (v' := .d (.int _ _)) (opv_move rfl) rfl ?_
                    refine RO.opv (v' := .d (.int _ _)) (opv_assign rfl) rfl ?_
                    refine RO.nil ?_
                    refine Runs.ret ?_
                    refine scope0Q_ret ?_
                    refine EndQ.tmp (.inr rfl) rfl rfl 0 (by exact Nat.le_refl _) (by exact Nat.zero_le _) trivial ⟨?_, rfl⟩
                    refine int_eq ?_
                    first
                      | (rw [bare_eq a b, if_pos (.inl hz)]; done)
                      | (rw [bare_eq a b, if_pos (.inr hq)]; done)
                      | (rw [bare_eq a b, if_neg (fun hh => hh.elim (fun hh => hh hz) hq), hi.2, bares_drop hk (by omega), if_pos hx]; done)
                      | (rw [bare_eq a b, if_neg (fun hh => hh.elim (fun hh => hh hz) hq), hi.2, hk, List.drop_length]; rfl)
        · try simp only [Z.a, Z.b, Z.c, Z.d, Z.e, Z.f, Z.g, Z.h, Z.i, Z.j, Z.k, Z.l, Z.m] at h13
          omega
  · try simp only [Z.a, Z.b, Z.c, Z.d, Z.e, Z.f, Z.g, Z.h, Z.i, Z.j, Z.k, Z.l, Z.m] at h1
    refine RO.off rfl ?_
    refine RO.off rfl ?_
    refine RO.off rfl ?_
    refine RO.off rfl ?_
    refine RO.off rfl ?_
    refine RO.off rfl ?_
    refine RO.off rfl ?_
    refine RO.off rfl ?_
    refine RO.opv (v' := .d (.bool false)) (opv_pick rfl rfl) rfl ?_
    refine RO.nil ?_
    refine Runs.condF rfl ?_
    refine Runs.skip ?_
    refine thenQ_normal ?_
    refine Runs.has [(2, .ref 0 0), (3, .ref 1 0), (4, .d (.int _ _)), (5, .d (.int _ _))] ⟨rfl, rfl, rfl, rfl, trivial⟩ ?_
    refine Runs.seq ?_
    refine Runs.rseq ?_
    refine RO.opv (v' := .ref 0 0) (opv_field_ref rfl rfl) rfl ?_
    refine RO.opv (v' := .d (.int _ _)) (opv_load_ref rfl rfl rfl) rfl ?_
    refine RO.opv (v' := .ref 1 0) (opv_field_ref rfl rfl) rfl ?_
    refine RO.opv (v' := .d (.int _ _)) (opv_load_ref rfl rfl rfl) rfl ?_
    refine RO.opv (v' := .d (.bool _)) (opv_bin rfl rfl rfl) rfl ?_
    refine RO.opc (opv_move rfl) (fun h25 => ?_) (fun h25 => ?_)
    · try simp only [Z.a, Z.b, Z.c, Z.d, Z.e, Z.f, Z.g, Z.h, Z.i, Z.j, Z.k, Z.l, Z.m] at h25
      omega
    · try simp only [Z.a, Z.b, Z.c, Z.d, Z.e, Z.f, Z.g, Z.h, Z.i, Z.j, Z.k, Z.l, Z.m] at h25
      refine RO.off rfl ?_
      refine RO.off rfl ?_
      refine RO.off rfl ?_
      refine RO.opv (v' := .d (.bool false)) (opv_pick rfl rfl) rfl ?_
      refine RO.nil ?_
      refine Runs.condF rfl ?_
      refine Runs.skip ?_
      refine thenQ_normal ?_
      refine Runs.has [(2, .ref 0 0), (3, .ref 1 0), (4, .d (.int _ _)), (5, .d (.int _ _))] ⟨rfl, rfl, rfl, rfl, trivial⟩ ?_
      refine Runs.seq ?_
      refine Runs.rseq ?_
      refine RO.opv (v' := .d (.int _ _)) (opv_move (v := .d (.int .i64 (headC a b))) (by refine int_eq ?_; first | exact (headC_num (by omega) (by omega)).symm | exact (headC_fun (by omega) (by omega)).symm | exact (headC_other (by omega)).symm)) rfl ?_
      refine RO.opv (v' := .d (.bool _)) (opv_bin rfl rfl rfl) rfl ?_
      refine RO.opc (opv_move rfl) (fun h26 => ?_) (fun h26 => ?_)
      · try simp only [Z.a, Z.b, Z.c, Z.d, Z.e, Z.f, Z.g, Z.h, Z.i, Z.j, Z.k, Z.l, Z.m] at h26
        have hz : headC a b ≠ 0 := h26
        refine RO.off rfl ?_
        refine RO.off rfl ?_
        refine RO.off rfl ?_
        refine RO.opv (v' := .d (.bool true)) (opv_pick rfl rfl) rfl ?_
        refine RO.opv (v' := .d (.bool true)) (opv_move rfl) rfl ?_
        refine RO.off rfl ?_
        refine RO.off rfl ?_
        refine RO.off rfl ?_
        refine RO.opv (v' := .d (.bool true)) (opv_pick rfl rfl) rfl ?_
        refine RO.nil ?_
        refine Runs.condT rfl ?_
        refine Runs.has [(2, .ref 0 0), (3, .ref 1 0), (4, .d (.int _ _)), (5, .d (.int _ _))] ⟨rfl, rfl, rfl, rfl, trivial⟩ ?_
        refine Runs.rseq ?_
        refine RO.opv (v' := .d (.int _ _)) (opv_move (v := .d (.int .i64 (headC a b))) (by refine int_eq ?_; first | exact (headC_num (by omega) (by omega)).symm | exact (headC_fun (by omega) (by omega)).symm | exact (headC_other (by omega)).symm)) rfl ?_
        refine RO.opv (v' := .d (.int _ _)) (opv_assign rfl) rfl ?_
        refine RO.nil ?_
        refine Runs.ret ?_
        refine thenQ_ret ?_
        refine scope0Q_ret ?_
        refine EndQ.tmp (.inr rfl) rfl rfl 0 (by exact Nat.le_refl _) (by exact Nat.zero_le _) trivial ⟨?_, rfl⟩
        refine int_eq ?_
        first
          | (rw [bare_eq a b, if_pos (.inl hz)]; done)
          | (rw [bare_eq a b, if_pos (.inr hq)]; done)
          | (rw [bare_eq a b, if_neg (fun hh => hh.elim (fun hh => hh hz) hq), hi.2, bares_drop hk (by omega), if_pos hx]; done)
          | (rw [bare_eq a b, if_neg (fun hh => hh.elim (fun hh => hh hz) hq), hi.2, hk, List.drop_length]; rfl)
      · try simp only [Z.a, Z.b, Z.c, Z.d, Z.e, Z.f, Z.g, Z.h, Z.i, Z.j, Z.k, Z.l, Z.m] at h26
        have hz : headC a b = 0 := by omega
        refine RO.opgv (v' := .ref 0 0) rfl (opv_field_ref rfl rfl) rfl ?_
        refine RO.opgv (v' := .d (.int _ _)) rfl (opv_load_ref rfl rfl rfl) rfl ?_
        refine RO.opgv (v' := .d (.bool _)) rfl (opv_bin rfl rfl rfl) rfl ?_
        refine RO.opv (v' := .d (.bool _)) (opv_pick rfl rfl) rfl ?_
        refine RO.opc (opv_move rfl) (fun h27 => ?_) (fun h27 => ?_)
        · try simp only [Z.a, Z.b, Z.c, Z.d, Z.e, Z.f, Z.g, Z.h, Z.i, Z.j, Z.k, Z.l, Z.m] at h27
          have hq : a.kind = 1 ∨ a.kind = 2 := .inl h27
          refine RO.off rfl ?_
          refine RO.off rfl ?_
          refine RO.off rfl ?_
          refine RO.opv (v' := .d (.bool true)) (opv_pick rfl rfl) rfl ?_
          refine RO.nil ?_
          refine Runs.condT rfl ?_
          refine Runs.has [(2, .ref 0 0), (3, .ref 1 0), (4, .d (.int _ _)), (5, .d (.int _ _))] ⟨rfl, rfl, rfl, rfl, trivial⟩ ?_
          refine Runs.rseq ?_
          refine RO.opv (v' := .d (.int _ _)) (opv_move (v := .d (.int .i64 (headC a b))) (by refine int_eq ?_; first | exact (headC_num (by omega) (by omega)).symm | exact (headC_fun (by omega) (by omega)).symm | exact (headC_other (by omega)).symm)) rfl ?_
          refine RO.opv (v' := .d (.int _ _)) (opv_assign rfl) rfl ?_
          refine RO.nil ?_
          refine Runs.ret ?_
          refine thenQ_ret ?_
          refine scope0Q_ret ?_
          refine EndQ.tmp (.inr rfl) rfl rfl 0 (by exact Nat.le_refl _) (by exact Nat.zero_le _) trivial ⟨?_, rfl⟩
          refine int_eq ?_
          first
            | (rw [bare_eq a b, if_pos (.inl hz)]; done)
            | (rw [bare_eq a b, if_pos (.inr hq)]; done)
            | (rw [bare_eq a b, if_neg (fun hh => hh.elim (fun hh => hh hz) hq), hi.2, bares_drop hk (by omega), if_pos hx]; done)
            | (rw [bare_eq a b, if_neg (fun hh => hh.elim (fun hh => hh hz) hq), hi.2, hk, List.drop_length]; rfl)
        · try simp only [Z.a, Z.b, Z.c, Z.d, Z.e, Z.f, Z.g, Z.h, Z.i, Z.j, Z.k, Z.l, Z.m] at h27
          skip
          refine RO.opgv (v' := .ref 0 0) rfl (opv_field_ref rfl rfl) rfl ?_
          refine RO.opgv (v' := .d (.int _ _)) rfl (opv_load_ref rfl rfl rfl) rfl ?_
          refine RO.opgv (v' := .d (.bool _)) rfl (opv_bin rfl rfl rfl) rfl ?_
          refine RO.opc (opv_pick rfl rfl) (fun h28 => ?_) (fun h28 => ?_)
          · try simp only [Z.a, Z.b, Z.c, Z.d, Z.e, Z.f, Z.g, Z.h, Z.i, Z.j, Z.k, Z.l, Z.m] at h28
            have hq : a.kind = 1 ∨ a.kind = 2 := .inr h28
            refine RO.nil ?_
            refine Runs.condT rfl ?_
            refine Runs.has [(2, .ref 0 0), (3, .ref 1 0), (4, .d (.int _ _)), (5, .d (.int _ _))] ⟨rfl, rfl, rfl, rfl, trivial⟩ ?_
            refine Runs.rseq ?_
            refine RO.opv (v' := .d (.int _ _)) (opv_move (v := .d (.int .i64 (headC a b))) (by refine int_eq ?_; first | exact (headC_num (by omega) (by omega)).symm | exact (headC_fun (by omega) (by omega)).symm | exact (headC_other (by omega)).symm)) rfl ?_
            refine RO.opv (v' := .d (.int _ _)) (opv_assign rfl) rfl ?_
            refine RO.nil ?_
            refine Runs.ret ?_
            refine thenQ_ret ?_
            refine scope0Q_ret ?_
            refine EndQ.tmp (.inr rfl) rfl rfl 0 (by exact Nat.le_refl _) (by exact Nat.zero_le _) trivial ⟨?_, rfl⟩
            refine int_eq ?_
            first
              | (rw [bare_eq a b, if_pos (.inl hz)]; done)
              | (rw [bare_eq a b, if_pos (.inr hq)]; done)
              | (rw [bare_eq a b, if_neg (fun hh => hh.elim (fun hh => hh hz) hq), hi.2, bares_drop hk (by omega), if_pos hx]; done)
              | (rw [bare_eq a b, if_neg (fun hh => hh.elim (fun hh => hh hz) hq), hi.2, hk, List.drop_length]; rfl)
          · try simp only [Z.a, Z.b, Z.c, Z.d, Z.e, Z.f, Z.g, Z.h, Z.i, Z.j, Z.k, Z.l, Z.m] at h28
            have hq : ¬ (a.kind = 1 ∨ a.kind = 2) := by omega
            have hlm := head_len hz hq
            refine RO.nil ?_
            refine Runs.condF rfl ?_
            refine Runs.skip ?_
            refine thenQ_normal ?_
            refine Runs.has [(2, .ref 0 0), (3, .ref 1 0), (4, .d (.int _ _)), (5, .d (.int _ _))] ⟨rfl, rfl, rfl, rfl, trivial⟩ ?_
            refine Runs.seq ?_
            refine Runs.label ?_
            refine thenQ_normal ?_
            refine Runs.seq ?_
            refine Runs.rseq ?_
            refine RO.opv (v' := .ref 0 3) (opv_field_ref rfl rfl) rfl ?_
            refine RO.opv (v' := .d (.list (encs _))) (opv_load_ref rfl rfl rfl) rfl ?_
            refine RO.opv (v' := .d (.int _ _)) (opv_len_terms rfl) rfl ?_
            refine RO.opv (v' := .d (.int _ _)) (opv_move rfl) rfl ?_
            refine RO.nil ?_
            refine Runs.block ?_
            refine Runs.loopC (X := Nat) (fun i => i ≤ a.kids.length ∧ bares a.kids b.kids = bares (a.kids.drop i) (b.kids.drop i)) (fun i => a.kids.length - i) [(2, .ref 0 0), (3, .ref 1 0), (4, .d (.int _ _)), (90, .d (.int _ _))] (fun i => [(5, .d (.int .i64 0)), (91, .d (.int .i64 (i : Nat)))]) [_, _] (fun i => []) (0) ⟨rfl, rfl, rfl, rfl, trivial⟩ ⟨(by refine int_eq (Eq.trans ?_ hz); first | exact (headC_num (by omega) (by omega)).symm | exact (headC_fun (by omega) (by omega)).symm | exact (headC_other (by omega)).symm), rfl, trivial⟩ rfl ⟨Nat.zero_le _, rfl⟩ fun i hi => ?_
            refine Runs.rseq ?_
            refine RO.opc (opv_bin rfl rfl rfl) (fun h29 => ?_) (fun h29 => ?_)
            · try simp only [Z.a, Z.b, Z.c, Z.d, Z.e, Z.f, Z.g, Z.h, Z.i, Z.j, Z.k, Z.l, Z.m] at h29
              have hk : i < a.kids.length := by omega
              refine RO.nil ?_
              refine Runs.seq ?_
              refine Runs.condT rfl ?_
              refine Runs.skip ?_
              refine thenQ_normal ?_
              refine Runs.has [(2, .ref 0 0), (3, .ref 1 0), (4, .d (.int _ _)), (5, .d (.int _ _)), (90, .d (.int _ _)), (91, .d (.int _ _))] ⟨rfl, rfl, rfl, rfl, rfl, rfl, trivial⟩ ?_
              refine Runs.seq ?_
              refine Runs.block ?_
              refine Runs.rseq ?_
              refine RO.opv (v' := .d (.int _ _)) (opv_move rfl) rfl ?_
              refine RO.opv (v' := .d (.int _ _)) (opv_assign rfl) rfl ?_
              refine RO.nil ?_
              refine Runs.has [(2, .ref 0 0), (3, .ref 1 0), (4, .d (.int _ _)), (5, .d (.int _ _)), (6, .d (.int _ _)), (90, .d (.int _ _)), (91, .d (.int _ _))] ⟨rfl, rfl, rfl, rfl, rfl, rfl, rfl, trivial⟩ ?_
              refine Runs.seq ?_
              refine Runs.drawn (by kernel_rfl) [] [false, false, false, false, false, false, false, false, false, false, false, false] [false, false, false, false, false, false, false, false, false, false, false, false] (by decide +kernel) ?_
              refine RD.opv (v' := .ref 0 3) (opv_field_ref rfl rfl) rfl ?_
              refine RD.opv (v' := .d (.list (encs _))) (opv_load_ref rfl rfl rfl) rfl ?_
              refine RD.opv (v' := .d (.int _ _)) (opv_move rfl) rfl ?_
              refine RD.opv (v' := .d (.ptr _)) (opv_index_terms rfl rfl (by omega)) rfl ?_
              refine RD.opv (v' := .d (enc _)) (opv_load_pterm rfl) rfl ?_
              refine RD.opv (v' := .ref 1 3) (opv_field_ref rfl rfl) rfl ?_
              refine RD.opv (v' := .d (.list (encs _))) (opv_load_ref rfl rfl rfl) rfl ?_
              refine RD.opv (v' := .d (.int _ _)) (opv_move rfl) rfl ?_
              refine RD.opv (v' := .d (.ptr _)) (opv_index_terms rfl rfl (by omega)) rfl ?_
              refine RD.opv (v' := .d (enc _)) (opv_load_pterm rfl) rfl ?_
              refine RD.opv (v' := .d (.int _ _)) (opv_callF (ih a.kids[i] b.kids[i] (by have := sizes_mem (List.getElem_mem hk); omega) (by have := bulks_mem (List.getElem_mem hk); omega) (by have := bulks_mem (List.getElem_mem (l := b.kids) (n := i) (by omega)); omega)) rfl rfl rfl trivial) rfl ?_
              refine RD.opv (v' := .d (.int _ _)) (opv_assign rfl) rfl ?_
              refine RD.nil ?_
              refine thenQ_normal ?_
              refine Runs.has [(2, .ref 0 0), (3, .ref 1 0), (4, .d (.int _ _)), (5, .d (.int _ _)), (90, .d (.int _ _)), (91, .d (.int _ _))] ⟨rfl, rfl, rfl, rfl, rfl, rfl, trivial⟩ ?_
              refine Runs.rseq ?_
              refine RO.opv (v' := .d (.int _ _)) (opv_move rfl) rfl ?_
              refine RO.nil ?_
              refine Runs.block ?_
              refine Runs.rseq ?_
              refine RO.opv (v' := .d (.bool _)) (opv_bin rfl rfl rfl) rfl ?_
              refine RO.opc (opv_assign rfl) (fun h30 => ?_) (fun h30 => ?_)
              · try simp only [Z.a, Z.b, Z.c, Z.d, Z.e, Z.f, Z.g, Z.h, Z.i, Z.j, Z.k, Z.l, Z.m] at h30
                have hx := h30
                refine RO.nil ?_
                refine Runs.condT rfl ?_
                refine Runs.exit ?_
                refine blockQ_on ?_
                refine blockQ_here ?_
                refine thenQ_normal ?_
                refine Runs.has [(2, .ref 0 0), (3, .ref 1 0), (4, .d (.int _ _)), (5, .d (.int _ _)), (90, .d (.int _ _)), (91, .d (.int _ _))] ⟨rfl, rfl, rfl, rfl, rfl, rfl, trivial⟩ ?_
                refine Runs.region ?_
                refine RO.opv (v' := .d (.int _ _)) (opv_bin rfl rfl rfl) rfl ?_
                refine RO.opv (v' := .d (.int _ _)) (opv_move rfl) rfl ?_
                refine RO.nil ?_
                refine thenQ_normal ?_
                refine ⟨i + 1, 2, (by rw [hK]; exact Nat.le_of_ble_eq_true rfl), ⟨rfl, rfl, rfl, rfl, trivial⟩, ⟨?_, ?_, trivial⟩, rfl, ?_, ?_⟩
                · refine int_eq ?_; exact hx
                · refine int_eq ?_; rw [wrap64 (by omega) (by omega)]; omega
                · refine ⟨by omega, ?_⟩
                  rw [hi.2, bares_drop hk (by omega), if_neg (fun hh => hh hx)]
                · omega
              · try simp only [Z.a, Z.b, Z.c, Z.d, Z.e, Z.f, Z.g, Z.h, Z.i, Z.j, Z.k, Z.l, Z.m] at h30
                have hx := h30
                refine RO.nil ?_
                refine Runs.condF rfl ?_
                refine Runs.exit ?_
                refine blockQ_on ?_
                refine blockQ_on ?_
                refine thenQ_exit ?_
                refine thenQ_exit ?_
                refine blockQ_here ?_
                refine thenQ_normal ?_
                refine Runs.has [(4, .d (.int _ _)), (5, .d (.int _ _))] ⟨rfl, rfl, trivial⟩ ?_
                refine Runs.rseq ?_
                refine RO.opv (v' := .d (.int _ _)) (opv_move rfl) rfl ?_
                refine RO.opv (v' := .d (.int _ _)) (opv_assign rfl) rfl ?_
                refine RO.nil ?_
                refine Runs.ret ?_
                refine scope0Q_ret ?_
                refine EndQ.tmp (.inr rfl) rfl rfl 0 (by exact Nat.le_refl _) (by exact Nat.zero_le _) trivial ⟨?_, rfl⟩
                refine int_eq ?_
                first
                  | (rw [bare_eq a b, if_pos (.inl hz)]; done)
                  | (rw [bare_eq a b, if_pos (.inr hq)]; done)
                  | (rw [bare_eq a b, if_neg (fun hh => hh.elim (fun hh => hh hz) hq), hi.2, bares_drop hk (by omega), if_pos hx]; done)
                  | (rw [bare_eq a b, if_neg (fun hh => hh.elim (fun hh => hh hz) hq), hi.2, hk, List.drop_length]; rfl)
            · try simp only [Z.a, Z.b, Z.c, Z.d, Z.e, Z.f, Z.g, Z.h, Z.i, Z.j, Z.k, Z.l, Z.m] at h29
              have hk : i = a.kids.length := by omega
              refine RO.nil ?_
              refine Runs.seq ?_
              refine Runs.condF rfl ?_
              refine Runs.exit ?_
              refine thenQ_exit ?_
              refine thenQ_exit ?_
              refine blockQ_here ?_
              refine thenQ_normal ?_
              refine Runs.has [(4, .d (.int _ _)), (5, .d (.int _ _))] ⟨rfl, rfl, trivial⟩ ?_
              refine Runs.rseq ?_
              refine RO.opv (v' := .d (.int _ _)) (opv_move rfl) rfl ?_
              refine RO.opv (v' := .d (.int _ _)) (opv_assign rfl) rfl ?_
              refine RO.nil ?_
              refine Runs.ret ?_
              refine scope0Q_ret ?_
              refine EndQ.tmp (.inr rfl) rfl rfl 0 (by exact Nat.le_refl _) (by exact Nat.zero_le _) trivial ⟨?_, rfl⟩
              refine int_eq ?_
              first
                | (rw [bare_eq a b, if_pos (.inl hz)]; done)
                | (rw [bare_eq a b, if_pos (.inr hq)]; done)
                | (rw [bare_eq a b, if_neg (fun hh => hh.elim (fun hh => hh hz) hq), hi.2, bares_drop hk (by omega), if_pos hx]; done)
                | (rw [bare_eq a b, if_neg (fun hh => hh.elim (fun hh => hh hz) hq), hi.2, hk, List.drop_length]; rfl)
theorem bare_fn (a b : Term) (hb : a.bulk ≤ 2 ^ 30) (hb' : b.bulk ≤ 2 ^ 30) : Fn Try.prog 42 [.d (enc a), .d (enc b)] [] (.d (.int .i64 (a.bare b))) [] := bare_aux a.size a b (Nat.le_refl _) hb hb'
theorem compare_fn (a b : Term) (ha : a.bulk ≤ 2 ^ 30) (hb : b.bulk ≤ 2 ^ 30) : Fn Try.prog 19 [.d (enc a), .d (enc b)] [] (.d (.int .i64 (compareT a b))) [] := by
  refine Does.run Try.func19 rfl Try.ntmps19 rfl fun K hK => ?_
  refine Runs.rseq ?_
  refine RO.opn (v' := .ref 0 0) (O' := [_]) (opv_box_term rfl) rfl rfl ?_
  refine RO.opn (v' := .ref 1 0) (O' := [_, _]) (opv_box_term rfl) rfl rfl ?_
  refine RO.opv (v' := .d (.int _ _)) (opv_assign rfl) rfl ?_
  refine RO.nil ?_
  refine Runs.has [(2, .ref 0 0), (3, .ref 1 0), (4, .d (.int _ _))] ⟨rfl, rfl, rfl, trivial⟩ ?_
  refine Runs.seq ?_
  refine Runs.drawn (by kernel_rfl) [] [false, false, false, false, false, false] [false, false, false, false, false, false] (by decide +kernel) ?_
  refine RD.opv (v' := .d (enc _)) (opv_load_term rfl rfl rfl) rfl ?_
  refine RD.opv (v' := .d (enc _)) (opv_callF (erase_fn a ha) rfl rfl rfl trivial) rfl ?_
  refine RD.opv (v' := .d (enc _)) (opv_load_term rfl rfl rfl) rfl ?_
  refine RD.opv (v' := .d (enc _)) (opv_callF (erase_fn b hb) rfl rfl rfl trivial) rfl ?_
  refine RD.opv (v' := .d (.int _ _)) (opv_callF (bare_fn a.erase b.erase (Nat.le_trans (erase_bulk a) ha) (Nat.le_trans (erase_bulk b) hb)) rfl rfl rfl trivial) rfl ?_
  refine RD.opv (v' := .d (.int _ _)) (opv_assign rfl) rfl ?_
  refine RD.nil ?_
  refine thenQ_normal ?_
  refine Runs.ret ?_
  refine EndQ.tmp (.inr rfl) rfl rfl 0 (by exact Nat.le_refl _) (by exact Nat.zero_le _) trivial ⟨?_, rfl⟩
  rfl
theorem ins_fn (l : List Term) (v a b : Nat) (hb : b ≤ l.length) (hl : l.length ≤ 2 ^ 20) (ha : a ≤ 2 ^ 20) (hbk : ∀ x ∈ l, x.bulk ≤ 2 ^ 30) : Fn Try.prog 66 [.own 0 v, .d (.int .i64 ((a : Nat) : Int)), .d (.int .i64 ((b : Nat) : Int)), .fn 19 []] [.buf 24 4 (encs l) v] (.tup []) [.buf 24 4 (encs (isortF compareT a (b - (a + 1)) l)) v] := by
  refine Does.run Try.func66 rfl Try.ntmps66 rfl fun K hK => ?_
  refine Runs.rseq ?_
  refine RO.opv (v' := .d (.int _ _)) (opv_move rfl) rfl ?_
  refine RO.opv (v' := .d (.int _ _)) (opv_arith (r := ((a + 1 : Nat) : Int)) rfl rfl (by simp only [binD, if_true]; rw [wrap64 (by omega) (by omega)]; congr 2)) rfl ?_
  refine RO.opv (v' := .d (.int _ _)) (opv_assign rfl) rfl ?_
  refine RO.nil ?_
  refine Runs.block ?_
  refine Runs.loopC (X := Nat) (fun k => k ≤ b - (a + 1)) (fun k => b - (a + 1) - k) [(0, .own 0 _), (1, .d (.int _ _)), (2, .d (.int _ _)), (3, .fn 19 _)] (fun k => [(8, .d (.int .i64 ((a + 1 + k : Nat) : Int)))]) [] (fun k => [.buf 24 4 (encs (isortF compareT a k l)) v]) (0) ⟨rfl, rfl, rfl, rfl, trivial⟩ ⟨rfl, trivial⟩ rfl (Nat.zero_le _) fun k hi => ?_
  have hlk := isortF_len compareT a k l
  refine Runs.seq ?_
  refine Runs.rseq ?_
  refine RO.opv (v' := .d (.int _ _)) (opv_move rfl) rfl ?_
  refine RO.opv (v' := .d (.int _ _)) (opv_move rfl) rfl ?_
  refine RO.opc (opv_bin rfl rfl rfl) (fun h1 => ?_) (fun h1 => ?_)
  · try simp only [Z.a, Z.b, Z.c, Z.d, Z.e, Z.f, Z.g, Z.h, Z.i, Z.j, Z.k, Z.l, Z.m] at h1
    have hk : a + 1 + k < b := by omega
    refine RO.nil ?_
    refine Runs.condT rfl ?_
    refine Runs.skip ?_
    refine thenQ_normal ?_
    refine Runs.has [(0, .own 0 _), (1, .d (.int _ _)), (2, .d (.int _ _)), (3, .fn 19 _), (8, .d (.int _ _))] ⟨rfl, rfl, rfl, rfl, rfl, trivial⟩ ?_
    refine Runs.seq ?_
    refine Runs.block ?_
    refine Runs.rseq ?_
    refine RO.opv (v' := .d (.int _ _)) (opv_move rfl) rfl ?_
    refine RO.opv (v' := .d (.int _ _)) (opv_assign rfl) rfl ?_
    refine RO.nil ?_
    refine Runs.block ?_
    refine Runs.loopC (X := (Nat × List Term)) (fun y => sink compareT a y.1 y.2 = sink compareT a (a + 1 + k) (isortF compareT a k l) ∧ y.1 ≤ a + 1 + k ∧ y.2.length = l.length ∧ (∀ z ∈ y.2, z ∈ l) ∧ a ≤ y.1) (fun y => y.1) [(0, .own 0 _), (1, .d (.int _ _)), (2, .d (.int _ _)), (3, .fn 19 _), (8, .d (.int _ _))] (fun y => [(9, .d (.int .i64 ((y.1 : Nat) : Int)))]) [] (fun y => [.buf 24 4 (encs y.2) v]) ((a + 1 + k, isortF compareT a k l)) ⟨rfl, rfl, rfl, rfl, rfl, trivial⟩ ⟨rfl, trivial⟩ rfl ⟨rfl, Nat.le_refl _, hlk, fun z hz => isortF_mem k l hz, by omega⟩ fun y hj => ?_
    obtain ⟨hjs, hjl, hjn, hmem, hja⟩ := hj
    refine Runs.seq ?_
    refine Runs.seq ?_
    refine Runs.drawn (by kernel_rfl) [] [false, false, false, false, false, false, false, false, false, false, false, false, false, false, false, false, false] [false, false, false, false, false, false, false, false, false, false, false, false, false, false, false, false, false] (by decide +kernel) ?_
    refine RD.opv (v' := .d (.int _ _)) (opv_move rfl) rfl ?_
    refine RD.opv (v' := .d (.int _ _)) (opv_move rfl) rfl ?_
    refine RD.opv (v' := .d (.bool _)) (opv_bin rfl rfl rfl) rfl ?_
    refine RD.opc (opv_move rfl) (fun h2 => ?_) (fun h2 => ?_)
    · try simp only [Z.a, Z.b, Z.c, Z.d, Z.e, Z.f, Z.g, Z.h, Z.i, Z.j, Z.k, Z.l, Z.m] at h2
      obtain ⟨j', hj'⟩ : ∃ j', y.1 = j' + 1 := ⟨y.1 - 1, by omega⟩
      obtain ⟨X, hgx⟩ : ∃ X, y.2[y.1]? = some X := ⟨_, List.getElem?_eq_getElem (by omega)⟩
      obtain ⟨Y, hgy⟩ : ∃ Y, y.2[j']? = some Y := ⟨_, List.getElem?_eq_getElem (by omega)⟩
      refine RD.opgv (v' := .fn 19 _) rfl (opv_move rfl) rfl ?_
      refine RD.opgv (v' := .own 0 _) rfl (opv_move rfl) rfl ?_
      refine RD.opgv (v' := .d (.int _ _)) rfl (opv_move rfl) rfl ?_
      refine RD.opgv (v' := .oel 0 _ _ 0) rfl (opv_index_oterm rfl rfl rfl (by omega)) rfl ?_
      refine RD.opgv (v' := .d (enc _)) rfl (opv_load_oterm rfl rfl hgx) rfl ?_
      refine RD.opgv (v' := .own 0 _) rfl (opv_move rfl) rfl ?_
      refine RD.opgv (v' := .d (.int _ _)) rfl (opv_move rfl) rfl ?_
      refine RD.opgv (v' := .d (.int _ _)) rfl (opv_arith (r := ((j' : Nat) : Int)) rfl rfl (by simp only [binD, if_true]; rw [wrap64 (by omega) (by omega)]; congr 2; omega)) rfl ?_
      refine RD.opgv (v' := .oel 0 _ _ 0) rfl (opv_index_oterm rfl rfl rfl (by omega)) rfl ?_
      refine RD.opgv (v' := .d (enc _)) rfl (opv_load_oterm rfl rfl hgy) rfl ?_
      refine RD.opgv (v' := .d (.int _ _)) rfl (opv_callF (compare_fn X Y (hbk X (hmem X (List.mem_of_getElem? hgx))) (hbk Y (hmem Y (List.mem_of_getElem? hgy)))) rfl rfl rfl trivial) rfl ?_
      refine RD.opgv (v' := .d (.bool _)) rfl (opv_bin rfl rfl rfl) rfl ?_
      refine RD.opc (opv_pick rfl rfl) (fun h3 => ?_) (fun h3 => ?_)
      · try simp only [Z.a, Z.b, Z.c, Z.d, Z.e, Z.f, Z.g, Z.h, Z.i, Z.j, Z.k, Z.l, Z.m] at h3
        have hlt := h3
        refine RD.nil ?_
        refine thenQ_normal ?_
        refine Runs.condT rfl ?_
        refine Runs.skip ?_
        refine thenQ_normal ?_
        refine Runs.has [(0, .own 0 _), (1, .d (.int _ _)), (2, .d (.int _ _)), (3, .fn 19 _), (8, .d (.int _ _)), (9, .d (.int _ _))] ⟨rfl, rfl, rfl, rfl, rfl, rfl, trivial⟩ ?_
        refine Runs.seq ?_
        refine Runs.block ?_
        refine Runs.drawn (by kernel_rfl) [] [false, false, true, true, true, false, false, false, false, false, false, false, false, false, false, false, false, false] [false, false, false, false, false, false, false, false, false, false, false, false, false, false, false, true, false, true] (by decide +kernel) ?_
        refine RD.opv (v' := .own 0 _) (opv_move rfl) rfl ?_
        refine RD.opv (v' := .d (.int _ _)) (opv_move rfl) rfl ?_
        refine RD.opa (v' := .own 0 _) (fun O' hkeep => opv_move rfl) rfl ?_
        refine RD.opa (v' := .d (.int _ _)) (fun O' hkeep => opv_move rfl) rfl ?_
        refine RD.opa (v' := .d (.int _ _)) (fun O' hkeep => opv_arith (r := ((j' : Nat) : Int)) rfl rfl (by simp only [binD, if_true]; rw [wrap64 (by omega) (by omega)]; congr 2; omega)) rfl ?_
        refine RD.opv (v' := .own 0 _) (opv_move rfl) rfl ?_
        refine RD.opv (v' := .d (.int _ _)) (opv_move rfl) rfl ?_
        refine RD.opv (v' := .d (.int _ _)) (opv_arith (r := ((j' : Nat) : Int)) rfl rfl (by simp only [binD, if_true]; rw [wrap64 (by omega) (by omega)]; congr 2; omega)) rfl ?_
        refine RD.opv (v' := .oel 0 _ _ 0) (opv_index_oterm rfl rfl rfl (by omega)) rfl ?_
        refine RD.opv (v' := .d (enc _)) (opv_load_oterm rfl rfl hgy) rfl ?_
        refine RD.opv (v' := .own 0 _) (opv_move rfl) rfl ?_
        refine RD.opv (v' := .d (.int _ _)) (opv_move rfl) rfl ?_
        refine RD.opv (v' := .oel 0 _ _ 0) (opv_index_oterm rfl rfl rfl (by omega)) rfl ?_
        refine RD.opv (v' := .d (enc _)) (opv_load_oterm rfl rfl hgx) rfl ?_
        refine RD.opv (v' := .oel 0 _ _ 0) (opv_index_oterm rfl rfl rfl (by omega)) rfl ?_
        refine RD.op0n (O' := [_]) (opv_store_oterm rfl rfl rfl (by omega)) rfl trivial ?_
        refine RD.opv (v' := .oel 0 _ _ 0) (opv_index_oterm rfl rfl rfl (by rw [List.length_set]; omega)) rfl ?_
        refine RD.op0n (O' := [_]) (opv_store_oterm rfl rfl rfl (by rw [List.length_set]; omega)) rfl trivial ?_
        refine RD.nil ?_
        refine blockQ_normal ?_
        refine thenQ_normal ?_
        refine Runs.has [(0, .own 0 _), (1, .d (.int _ _)), (2, .d (.int _ _)), (3, .fn 19 _), (8, .d (.int _ _)), (9, .d (.int _ _))] ⟨rfl, rfl, rfl, rfl, rfl, rfl, trivial⟩ ?_
        refine Runs.region ?_
        refine RO.opv (v' := .d (.int _ _)) (opv_move rfl) rfl ?_
        refine RO.opv (v' := .d (.int _ _)) (opv_bin rfl rfl rfl) rfl ?_
        refine RO.opv (v' := .d (.int _ _)) (opv_assign rfl) rfl ?_
        refine RO.nil ?_
        refine thenQ_normal ?_
        refine ⟨(j', swapT y.2 y.1 j' X Y), 1, (by rw [hK]; exact Nat.le_of_ble_eq_true rfl), ⟨rfl, rfl, rfl, rfl, rfl, trivial⟩, ⟨?_, trivial⟩, rfl, ?_, ?_⟩
        · refine int_eq ?_; rw [wrap64 (by omega) (by omega)]; show ((y.1 : Nat) : Int) - 1 = ((j' : Nat) : Int); omega
        · refine ⟨?_, by show j' ≤ _; omega, by show (swapT y.2 y.1 j' X Y).length = _; rw [swapT_len]; exact hjn, fun z hz => hmem z (swapT_mem (List.mem_of_getElem? hgx) (List.mem_of_getElem? hgy) hz), by show a ≤ j'; omega⟩
          rw [← hjs, hj', sink_go (by rw [← hj']; exact hgx) hgy (by omega) hlt]
        · show j' < y.1; omega
      · try simp only [Z.a, Z.b, Z.c, Z.d, Z.e, Z.f, Z.g, Z.h, Z.i, Z.j, Z.k, Z.l, Z.m] at h3
        have hend : y.2 = sink compareT a y.1 y.2 := by rw [hj', sink_end (by rw [← hj']; exact hgx) hgy (by omega)]
        refine RD.nil ?_
        refine thenQ_normal ?_
        refine Runs.condF rfl ?_
        refine Runs.exit ?_
        refine thenQ_exit ?_
        refine thenQ_exit ?_
        refine blockQ_here ?_
        refine blockQ_normal ?_
        refine thenQ_normal ?_
        refine Runs.has [(0, .own 0 _), (1, .d (.int _ _)), (2, .d (.int _ _)), (3, .fn 19 _), (8, .d (.int _ _))] ⟨rfl, rfl, rfl, rfl, rfl, trivial⟩ ?_
        refine Runs.region ?_
        refine RO.opv (v' := .d (.int _ _)) (opv_move rfl) rfl ?_
        refine RO.opv (v' := .d (.int _ _)) (opv_bin rfl rfl rfl) rfl ?_
        refine RO.opv (v' := .d (.int _ _)) (opv_assign rfl) rfl ?_
        refine RO.nil ?_
        refine thenQ_normal ?_
        refine ⟨k + 1, 1, (by rw [hK]; exact Nat.le_of_ble_eq_true rfl), ⟨rfl, rfl, rfl, rfl, trivial⟩, ⟨?_, trivial⟩, ?_, ?_, ?_⟩
        · refine int_eq ?_; rw [wrap64 (by omega) (by omega)]; omega
        · rw [isortF_succ, ← hjs, ← hend]; rfl
        · omega
        · omega
    · try simp only [Z.a, Z.b, Z.c, Z.d, Z.e, Z.f, Z.g, Z.h, Z.i, Z.j, Z.k, Z.l, Z.m] at h2
      have hend : y.2 = sink compareT a y.1 y.2 := (sink_stop (by omega)).symm
      refine RD.off rfl ?_
      refine RD.off rfl ?_
      refine RD.off rfl ?_
      refine RD.off rfl ?_
      refine RD.off rfl ?_
      refine RD.off rfl ?_
      refine RD.off rfl ?_
      refine RD.off rfl ?_
      refine RD.off rfl ?_
      refine RD.off rfl ?_
      refine RD.off rfl ?_
      refine RD.off rfl ?_
      refine RD.opv (v' := .d (.bool false)) (opv_pick rfl rfl) rfl ?_
      refine RD.nil ?_
      refine thenQ_normal ?_
      refine Runs.condF rfl ?_
      refine Runs.exit ?_
      refine thenQ_exit ?_
      refine thenQ_exit ?_
      refine blockQ_here ?_
      refine blockQ_normal ?_
      refine thenQ_normal ?_
      refine Runs.has [(0, .own 0 _), (1, .d (.int _ _)), (2, .d (.int _ _)), (3, .fn 19 _), (8, .d (.int _ _))] ⟨rfl, rfl, rfl, rfl, rfl, trivial⟩ ?_
      refine Runs.region ?_
      refine RO.opv (v' := .d (.int _ _)) (opv_move rfl) rfl ?_
      refine RO.opv (v' := .d (.int _ _)) (opv_bin rfl rfl rfl) rfl ?_
      refine RO.opv (v' := .d (.int _ _)) (opv_assign rfl) rfl ?_
      refine RO.nil ?_
      refine thenQ_normal ?_
      refine ⟨k + 1, 1, (by rw [hK]; exact Nat.le_of_ble_eq_true rfl), ⟨rfl, rfl, rfl, rfl, trivial⟩, ⟨?_, trivial⟩, ?_, ?_, ?_⟩
      · refine int_eq ?_; rw [wrap64 (by omega) (by omega)]; omega
      · rw [isortF_succ, ← hjs, ← hend]; rfl
      · omega
      · omega
  · try simp only [Z.a, Z.b, Z.c, Z.d, Z.e, Z.f, Z.g, Z.h, Z.i, Z.j, Z.k, Z.l, Z.m] at h1
    have hk : k = b - (a + 1) := by omega
    refine RO.nil ?_
    refine Runs.condF rfl ?_
    refine Runs.exit ?_
    refine thenQ_exit ?_
    refine thenQ_exit ?_
    refine blockQ_here ?_
    refine EndQ.none (.inl rfl) rfl 1 (by exact Nat.le_refl _) (by simp) ⟨rfl, ?_⟩
    · rw [hk]; rfl
theorem stable20_fn (l : List Term) (v : Nat) (hn : l.length < 20) (hbk : ∀ x ∈ l, x.bulk ≤ 2 ^ 30) : Fn Try.prog 61 [.own 0 v, .d (.int .i64 ((l.length : Nat) : Int)), .fn 19 []] [.buf 24 4 (encs l) v] (.tup []) [.buf 24 4 (encs (isortF compareT 0 (l.length - (0 + 1)) l)) v] := by
  refine Does.run Try.func61 rfl Try.ntmps61 rfl fun K hK => ?_
  refine Runs.rseq ?_
  refine RO.opv (v' := .d (.int _ _)) (opv_assign rfl) rfl ?_
  refine RO.nil ?_
  refine Runs.rseq ?_
  refine RO.opv (v' := .d (.int _ _)) (opv_move rfl) rfl ?_
  refine RO.opv (v' := .d (.int _ _)) (opv_assign rfl) rfl ?_
  refine RO.opv (v' := .d (.int _ _)) (opv_assign rfl) rfl ?_
  refine RO.nil ?_
  refine Runs.has [(0, .own 0 _), (1, .d (.int _ _)), (2, .fn 19 _), (6, .d (.int _ _)), (7, .d (.int _ _)), (8, .d (.int _ _))] ⟨rfl, rfl, rfl, rfl, rfl, rfl, trivial⟩ ?_
  refine Runs.seq ?_
  refine Runs.block ?_
  refine Runs.loopC (X := Nat) (fun i => True) (fun i => 0) [(0, .own 0 _), (1, .d (.int _ _)), (2, .fn 19 _), (6, .d (.int _ _))] (fun i => [(7, .d (.int .i64 0)), (8, .d (.int .i64 20))]) [] (fun i => [.buf 24 4 (encs l) v]) (0) ⟨rfl, rfl, rfl, rfl, trivial⟩ ⟨rfl, rfl, trivial⟩ rfl trivial fun i hi => ?_
  refine Runs.seq ?_
  refine Runs.rseq ?_
  refine RO.opv (v' := .d (.int _ _)) (opv_move rfl) rfl ?_
  refine RO.opv (v' := .d (.int _ _)) (opv_move rfl) rfl ?_
  refine RO.opc (opv_bin rfl rfl rfl) (fun h1 => ?_) (fun h1 => ?_)
  · try simp only [Z.a, Z.b, Z.c, Z.d, Z.e, Z.f, Z.g, Z.h, Z.i, Z.j, Z.k, Z.l, Z.m] at h1
    omega
  · try simp only [Z.a, Z.b, Z.c, Z.d, Z.e, Z.f, Z.g, Z.h, Z.i, Z.j, Z.k, Z.l, Z.m] at h1
    refine RO.nil ?_
    refine Runs.condF rfl ?_
    refine Runs.exit ?_
    refine thenQ_exit ?_
    refine thenQ_exit ?_
    refine blockQ_here ?_
    refine thenQ_normal ?_
    refine Runs.has [(0, .own 0 _), (1, .d (.int _ _)), (2, .fn 19 _), (6, .d (.int _ _)), (7, .d (.int _ _)), (8, .d (.int _ _))] ⟨rfl, rfl, rfl, rfl, rfl, rfl, trivial⟩ ?_
    refine Runs.rseq ?_
    refine RO.opv (v' := .own 0 _) (opv_move rfl) rfl ?_
    refine RO.opv (v' := .d (.int _ _)) (opv_move rfl) rfl ?_
    refine RO.opv (v' := .d (.int _ _)) (opv_move rfl) rfl ?_
    refine RO.opv (v' := .fn 19 _) (opv_move rfl) rfl ?_
    refine RO.opn (O' := [_]) (opv_callP 1 (ins_fn l v 0 l.length (Nat.le_refl _) (by omega) (Nat.zero_le _) hbk) rfl rfl (Nat.le_of_ble_eq_true rfl) rfl (AV.bds_of_B _ rfl)) rfl rfl ?_
    refine RO.nil ?_
    refine Runs.block ?_
    refine Runs.loopC (X := Nat) (fun i => True) (fun i => 0) [(0, .own 0 _), (1, .d (.int _ _)), (2, .fn 19 _)] (fun i => [(6, .d (.int .i64 20))]) [] (fun i => [.buf 24 4 (encs (isortF compareT 0 (l.length - (0 + 1)) l)) v]) (0) ⟨rfl, rfl, rfl, trivial⟩ ⟨rfl, trivial⟩ rfl trivial fun i hi => ?_
    refine Runs.seq ?_
    refine Runs.rseq ?_
    refine RO.opv (v' := .d (.int _ _)) (opv_move rfl) rfl ?_
    refine RO.opv (v' := .d (.int _ _)) (opv_move rfl) rfl ?_
    refine RO.opc (opv_bin rfl rfl rfl) (fun h2 => ?_) (fun h2 => ?_)
    · try simp only [Z.a, Z.b, Z.c, Z.d, Z.e, Z.f, Z.g, Z.h, Z.i, Z.j, Z.k, Z.l, Z.m] at h2
      omega
    · try simp only [Z.a, Z.b, Z.c, Z.d, Z.e, Z.f, Z.g, Z.h, Z.i, Z.j, Z.k, Z.l, Z.m] at h2
      refine RO.nil ?_
      refine Runs.condF rfl ?_
      refine Runs.exit ?_
      refine thenQ_exit ?_
      refine thenQ_exit ?_
      refine blockQ_here ?_
      refine EndQ.none (.inl rfl) rfl 1 (by exact Nat.le_refl _) (by simp) ⟨rfl, ?_⟩
      · rfl
theorem sortst20_fn (l : List Term) (v : Nat) (hn : l.length < 20) (hbk : ∀ x ∈ l, x.bulk ≤ 2 ^ 30) : Fn Try.prog 47 [.own 0 v, .fn 19 []] [.buf 24 4 (encs l) v] (.tup []) [.buf 24 4 (encs (isortF compareT 0 (l.length - (0 + 1)) l)) v] := by
  refine Does.run Try.func47 rfl Try.ntmps47 rfl fun K hK => ?_
  refine Runs.region ?_
  refine RO.opv (v' := .own 0 _) (opv_move rfl) rfl ?_
  refine RO.opv (v' := .own 0 _) (opv_move rfl) rfl ?_
  refine RO.opv (v' := .d (.int _ _)) (opv_len_oterms rfl rfl) rfl ?_
  refine RO.opv (v' := .fn 19 _) (opv_move rfl) rfl ?_
  refine RO.opn (O' := [_]) (opv_callP 1 (stable20_fn l v hn hbk) rfl rfl (Nat.le_of_ble_eq_true rfl) rfl (AV.bds_of_B _ rfl)) rfl rfl ?_
  refine RO.nil ?_
  refine EndQ.none (.inl rfl) rfl 1 (by exact Nat.le_refl _) (by simp) ⟨rfl, ?_⟩
  · rfl
theorem sort1_fn (a b : Term) (ha : a.bulk ≤ 2 ^ 30) (hb : b.bulk ≤ 2 ^ 30) : Fn Try.prog 49 [.d (enc a), .d (enc b)] [] (.d (.bool (compareT a b == 0))) [] := by
  refine Does.run Try.func49 rfl Try.ntmps49 rfl fun K hK => ?_
  refine Runs.rseq ?_
  refine RO.opn (v' := .ref 0 0) (O' := [_]) (opv_box_term rfl) rfl rfl ?_
  refine RO.opn (v' := .ref 1 0) (O' := [_, _]) (opv_box_term rfl) rfl rfl ?_
  refine RO.opv (v' := .d (.bool false)) (opv_assign rfl) rfl ?_
  refine RO.nil ?_
  refine Runs.has [(2, .ref 0 0), (3, .ref 1 0), (4, .d (.bool false))] ⟨rfl, rfl, rfl, trivial⟩ ?_
  refine Runs.rseq ?_
  refine RO.opv (v' := .d (enc _)) (opv_load_term rfl rfl rfl) rfl ?_
  refine RO.opv (v' := .d (enc _)) (opv_load_term rfl rfl rfl) rfl ?_
  refine RO.opv (v' := .d (.int _ _)) (opv_callF (compare_fn a b ha hb) rfl rfl rfl trivial) rfl ?_
  refine RO.opv (v' := .d (.bool _)) (opv_bin rfl rfl rfl) rfl ?_
  refine RO.opv (v' := .d (.bool _)) (opv_assign rfl) rfl ?_
  refine RO.nil ?_
  refine Runs.ret ?_
  refine EndQ.tmp (.inr rfl) rfl rfl 0 (by exact Nat.le_refl _) (by exact Nat.zero_le _) trivial ⟨?_, rfl⟩
  rfl
theorem compact0_fn (l : List Term) (v : Nat) (hl : l.length ≤ 2 ^ 20) (hbk : ∀ x ∈ l, x.bulk ≤ 2 ^ 30) (hno : ∀ (i : Nat) (x y : Term), l[i + 1]? = some x → l[i]? = some y → compareT x y ≠ 0) : Fn Try.prog 48 [.own 0 v, .fn 49 []] [.buf 24 4 (encs l) v] (.own 0 v) [.buf 24 4 (encs l) v] := by
  refine Does.run Try.func48 rfl Try.ntmps48 rfl fun K hK => ?_
  refine Runs.rseq ?_
  refine RO.opv (v' := .nil0) (opv_assign rfl) rfl ?_
  refine RO.nil ?_
  refine Runs.seq ?_
  refine Runs.rseq ?_
  refine RO.opv (v' := .own 0 _) (opv_move rfl) rfl ?_
  refine RO.opv (v' := .d (.int _ _)) (opv_len_oterms rfl rfl) rfl ?_
  refine RO.opc (opv_bin rfl rfl rfl) (fun h1 => ?_) (fun h1 => ?_)
  · try simp only [Z.a, Z.b, Z.c, Z.d, Z.e, Z.f, Z.g, Z.h, Z.i, Z.j, Z.k, Z.l, Z.m] at h1
    skip
    refine RO.nil ?_
    refine Runs.condT rfl ?_
    refine Runs.has [(0, .own 0 _), (1, .fn 49 _), (4, .nil0)] ⟨rfl, rfl, rfl, trivial⟩ ?_
    refine Runs.rseq ?_
    refine RO.opv (v' := .own 0 _) (opv_move rfl) rfl ?_
    refine RO.opv (v' := .own 0 _) (opv_assign rfl) rfl ?_
    refine RO.nil ?_
    refine Runs.ret ?_
    refine thenQ_ret ?_
    refine EndQ.tmp (.inr rfl) rfl rfl 1 (by exact Nat.le_refl _) (by simp) (Nat.zero_lt_one) ⟨?_, ?_⟩
    · rfl
    · rfl
  · try simp only [Z.a, Z.b, Z.c, Z.d, Z.e, Z.f, Z.g, Z.h, Z.i, Z.j, Z.k, Z.l, Z.m] at h1
    skip
    refine RO.nil ?_
    refine Runs.condF rfl ?_
    refine Runs.skip ?_
    refine thenQ_normal ?_
    refine Runs.has [(0, .own 0 _), (1, .fn 49 _), (4, .nil0)] ⟨rfl, rfl, rfl, trivial⟩ ?_
    refine Runs.seq ?_
    refine Runs.rseq ?_
    refine RO.opv (v' := .d (.int _ _)) (opv_assign rfl) rfl ?_
    refine RO.nil ?_
    refine Runs.block ?_
    refine Runs.loopC (X := Nat) (fun i => i + 1 ≤ l.length) (fun i => l.length - i) [(0, .own 0 _), (1, .fn 49 _)] (fun i => [(5, .d (.int .i64 ((i + 1 : Nat) : Int)))]) [] (fun i => [.buf 24 4 (encs l) v]) (0) ⟨rfl, rfl, trivial⟩ ⟨rfl, trivial⟩ rfl (by omega) fun i hi => ?_
    refine Runs.seq ?_
    refine Runs.rseq ?_
    refine RO.opv (v' := .d (.int _ _)) (opv_move rfl) rfl ?_
    refine RO.opv (v' := .own 0 _) (opv_move rfl) rfl ?_
    refine RO.opv (v' := .d (.int _ _)) (opv_len_oterms rfl rfl) rfl ?_
    refine RO.opc (opv_bin rfl rfl rfl) (fun h2 => ?_) (fun h2 => ?_)
    · try simp only [Z.a, Z.b, Z.c, Z.d, Z.e, Z.f, Z.g, Z.h, Z.i, Z.j, Z.k, Z.l, Z.m] at h2
      have hk : i + 1 < l.length := by omega
      obtain ⟨X, hgx⟩ : ∃ X, l[i + 1]? = some X := ⟨_, List.getElem?_eq_getElem (by omega)⟩
      obtain ⟨Y, hgy⟩ : ∃ Y, l[i]? = some Y := ⟨_, List.getElem?_eq_getElem (by omega)⟩
      refine RO.nil ?_
      refine Runs.condT rfl ?_
      refine Runs.skip ?_
      refine thenQ_normal ?_
      refine Runs.has [(0, .own 0 _), (1, .fn 49 _), (5, .d (.int _ _))] ⟨rfl, rfl, rfl, trivial⟩ ?_
      refine Runs.seq ?_
      refine Runs.block ?_
      refine Runs.seq ?_
      refine Runs.drawn (by kernel_rfl) [] [false, false, false, false, false, false, false, false, false, false, false] [false, false, false, false, false, false, false, false, false, false, false] (by decide +kernel) ?_
      refine RD.opv (v' := .fn 49 _) (opv_move rfl) rfl ?_
      refine RD.opv (v' := .own 0 _) (opv_move rfl) rfl ?_
      refine RD.opv (v' := .d (.int _ _)) (opv_move rfl) rfl ?_
      refine RD.opv (v' := .oel 0 _ _ 0) (opv_index_oterm rfl rfl rfl (by omega)) rfl ?_
      refine RD.opv (v' := .d (enc _)) (opv_load_oterm rfl rfl hgx) rfl ?_
      refine RD.opv (v' := .own 0 _) (opv_move rfl) rfl ?_
      refine RD.opv (v' := .d (.int _ _)) (opv_move rfl) rfl ?_
      refine RD.opv (v' := .d (.int _ _)) (opv_arith (r := ((i : Nat) : Int)) rfl rfl (by simp only [binD, if_true]; rw [wrap64 (by omega) (by omega)]; congr 2; omega)) rfl ?_
      refine RD.opv (v' := .oel 0 _ _ 0) (opv_index_oterm rfl rfl rfl (by omega)) rfl ?_
      refine RD.opv (v' := .d (enc _)) (opv_load_oterm rfl rfl hgy) rfl ?_
      refine RD.opc (opv_callF (sort1_fn X Y (hbk X (List.mem_of_getElem? hgx)) (hbk Y (List.mem_of_getElem? hgy))) rfl rfl rfl trivial) (fun h3 => ?_) (fun h3 => ?_)
      · try simp only [Z.a, Z.b, Z.c, Z.d, Z.e, Z.f, Z.g, Z.h, Z.i, Z.j, Z.k, Z.l, Z.m] at h3
        exact absurd h3 (hno i X Y hgx hgy)
      · try simp only [Z.a, Z.b, Z.c, Z.d, Z.e, Z.f, Z.g, Z.h, Z.i, Z.j, Z.k, Z.l, Z.m] at h3
        refine RD.nil ?_
        refine thenQ_normal ?_
        refine Runs.condF rfl ?_
        refine Runs.skip ?_
        refine blockQ_normal ?_
        refine thenQ_normal ?_
        refine Runs.has [(0, .own 0 _), (1, .fn 49 _), (5, .d (.int _ _))] ⟨rfl, rfl, rfl, trivial⟩ ?_
        refine Runs.region ?_
        refine RO.opv (v' := .d (.int _ _)) (opv_move rfl) rfl ?_
        refine RO.opv (v' := .d (.int _ _)) (opv_bin rfl rfl rfl) rfl ?_
        refine RO.opv (v' := .d (.int _ _)) (opv_assign rfl) rfl ?_
        refine RO.nil ?_
        refine thenQ_normal ?_
        refine ⟨i + 1, 1, (by rw [hK]; exact Nat.le_of_ble_eq_true rfl), ⟨rfl, rfl, trivial⟩, ⟨?_, trivial⟩, rfl, ?_, ?_⟩
        · refine int_eq ?_; rw [wrap64 (by omega) (by omega)]; omega
        · omega
        · omega
    · try simp only [Z.a, Z.b, Z.c, Z.d, Z.e, Z.f, Z.g, Z.h, Z.i, Z.j, Z.k, Z.l, Z.m] at h2
      have hk : i + 1 = l.length := by omega
      refine RO.nil ?_
      refine Runs.condF rfl ?_
      refine Runs.exit ?_
      refine thenQ_exit ?_
      refine thenQ_exit ?_
      refine blockQ_here ?_
      refine thenQ_normal ?_
      refine Runs.has [(0, .own 0 _)] ⟨rfl, trivial⟩ ?_
      refine Runs.rseq ?_
      refine RO.opv (v' := .own 0 _) (opv_move rfl) rfl ?_
      refine RO.opv (v' := .own 0 _) (opv_assign rfl) rfl ?_
      refine RO.nil ?_
      refine Runs.ret ?_
      refine EndQ.tmp (.inr rfl) rfl rfl 1 (by exact Nat.le_refl _) (by simp) (Nat.zero_lt_one) ⟨?_, ?_⟩
      · rfl
      · rfl
theorem cloneO_fn (l : List Term) (hne : l ≠ []) (hl : l.length ≤ 2 ^ 20) : Fn Try.prog 46 [.d (.list (encs l))] [] (.own 0 2) [.buf 24 4 (encs l) 2] := by
  refine Does.run Try.func46 rfl Try.ntmps46 rfl fun K hK => ?_
  refine Runs.rseq ?_
  refine RO.opv (v' := .nil0) (opv_assign rfl) rfl ?_
  refine RO.nil ?_
  refine Runs.seq ?_
  refine Runs.eqnil rfl rfl rfl (fun h1 => ?_) ?_
  · skip
    refine Runs.condT rfl ?_
    refine Runs.has [(0, .d (.list (encs _))), (2, .nil0)] ⟨rfl, rfl, trivial⟩ ?_
    refine Runs.rseq ?_
    refine RO.opv (v' := .nil0) (opv_assign rfl) rfl ?_
    refine RO.nil ?_
    refine Runs.adopt 2 24 4 rfl ?_
    refine Runs.ret ?_
    refine thenQ_ret ?_
    refine EndQ.tmp (.inr rfl) rfl rfl 1 (by simp) (by simp) (Nat.zero_lt_one) ⟨?_, ?_⟩
    · exact absurd (encs_nil h1) hne
    · exact absurd (encs_nil h1) hne
  · skip
    refine Runs.condF rfl ?_
    refine Runs.skip ?_
    refine thenQ_normal ?_
    refine Runs.has [(0, .d (.list (encs _))), (2, .nil0)] ⟨rfl, rfl, trivial⟩ ?_
    refine Runs.rseq ?_
    refine RO.opv (v' := .nil0) (opv_buildSlice0 rfl) rfl ?_
    refine RO.opv (v' := .d (.list (encs _))) (opv_move rfl) rfl ?_
    refine RO.opn (v' := .own 0 _) (O' := [_]) (opv_append_terms0 rfl rfl (by omega)) rfl rfl ?_
    refine RO.opv (v' := .own 0 _) (opv_assign rfl) rfl ?_
    refine RO.nil ?_
    refine Runs.ret ?_
    refine EndQ.tmp (.inr rfl) rfl rfl 1 (by simp) (by simp) (Nat.zero_lt_one) ⟨?_, ?_⟩
    · rfl
    · rfl
theorem sort20_fn (l : List Term) (hne : l ≠ []) (hn : l.length < 20) (hbk : ∀ x ∈ l, x.bulk ≤ 2 ^ 30) (hno : ∀ (i : Nat) (x y : Term), (isortF compareT 0 (l.length - (0 + 1)) l)[i + 1]? = some x → (isortF compareT 0 (l.length - (0 + 1)) l)[i]? = some y → compareT x y ≠ 0) : Fn Try.prog 22 [.d (.list (encs l))] [] (.d (.list (encs (isortF compareT 0 (l.length - (0 + 1)) l)))) [] := by
  refine Does.run Try.func22 rfl Try.ntmps22 rfl fun K hK => ?_
  refine Runs.rseq ?_
  refine RO.opv (v' := .nil0) (opv_assign rfl) rfl ?_
  refine RO.nil ?_
  refine Runs.rseq ?_
  refine RO.opv (v' := .d (.list (encs _))) (opv_move rfl) rfl ?_
  refine RO.opn (v' := .own 0 _) (O' := [_]) (opv_callN 0 (cloneO_fn l hne (by omega)) rfl rfl rfl) rfl rfl ?_
  refine RO.opv (v' := .own 0 _) (opv_assign rfl) rfl ?_
  refine RO.nil ?_
  refine Runs.has [(2, .nil0), (3, .own 0 _)] ⟨rfl, rfl, trivial⟩ ?_
  refine Runs.rseq ?_
  refine RO.opv (v' := .own 0 _) (opv_move rfl) rfl ?_
  refine RO.opn (O' := [_]) (opv_callP 1 (sortst20_fn l 2 hn hbk) rfl rfl (Nat.le_of_ble_eq_true rfl) rfl (AV.bds_of_B _ rfl)) rfl rfl ?_
  refine RO.nil ?_
  refine Runs.has [(2, .nil0), (3, .own 0 _)] ⟨rfl, rfl, trivial⟩ ?_
  refine Runs.rseq ?_
  refine RO.opv (v' := .own 0 _) (opv_move rfl) rfl ?_
  refine RO.opn (v' := .own 0 _) (O' := [_]) (opv_callP 1 (compact0_fn (isortF compareT 0 (l.length - (0 + 1)) l) 2 (by rw [isortF_len]; omega) (fun x hx => hbk x (isortF_mem _ l hx)) hno) rfl rfl (Nat.le_of_ble_eq_true rfl) rfl (AV.bds_of_B _ rfl)) rfl rfl ?_
  refine RO.opv (v' := .own 0 _) (opv_assign rfl) rfl ?_
  refine RO.nil ?_
  refine Runs.shut 2 rfl rfl ?_
  refine Runs.ret ?_
  refine EndQ.tmp (.inr rfl) rfl rfl 0 (by exact Nat.le_refl _) (by exact Nat.zero_le _) trivial ⟨?_, rfl⟩
  rfl
end Go.Proofs.Ythpiggjclhnkcaa.AM
