import Derived.Test.YthpiggjclhnkcaaOg
import Derived.Test.YthpiggjclhnkcaaWS
namespace Go.Proofs.Ythpiggjclhnkcaa.AM
open Go
set_option linter.unusedVariables false
set_option linter.unusedSimpArgs false
theorem rnums_fn (x y : Int) : Fn Try.prog 59 [.d (.int .i64 x), .d (.int .i64 y)] [] (.d (.int .i64 (cmpI x y))) [] := by
  refine Does.run Try.func59 rfl Try.ntmps59 rfl fun K hK => ?_
  refine Runs.rseq ?_
  refine RO.opv (v' := .d (.int _ _)) (opv_assign rfl) rfl ?_
  refine RO.nil ?_
  refine Runs.seq ?_
  refine Runs.rseq ?_
  refine RO.opv (v' := .d (.int _ _)) (opv_move rfl) rfl ?_
  refine RO.opv (v' := .d (.int _ _)) (opv_move rfl) rfl ?_
  refine RO.opc (opv_bin rfl rfl rfl) (fun h1 => ?_) (fun h1 => ?_)
  · try simp only [Z.a, Z.b, Z.c, Z.d, Z.e, Z.f, Z.g, Z.h, Z.i, Z.j, Z.k, Z.l, Z.m] at h1
    have q1 := h1
    refine RO.nil ?_
    refine Runs.condT rfl ?_
    refine Runs.has [(0, .d (.int _ _)), (1, .d (.int _ _)), (4, .d (.int _ _))] ⟨rfl, rfl, rfl, trivial⟩ ?_
    refine Runs.rseq ?_
    refine RO.opv (v' := .d (.int _ _)) (opv_assign rfl) rfl ?_
    refine RO.nil ?_
    refine Runs.ret ?_
    refine thenQ_ret ?_
    refine EndQ.tmp (.inr rfl) rfl rfl 0 (by exact Nat.le_refl _) (by exact Nat.zero_le _) trivial ⟨?_, rfl⟩
    refine int_eq ?_; unfold cmpI; rw [if_pos (by omega)]
  · try simp only [Z.a, Z.b, Z.c, Z.d, Z.e, Z.f, Z.g, Z.h, Z.i, Z.j, Z.k, Z.l, Z.m] at h1
    have q1 := h1
    refine RO.nil ?_
    refine Runs.condF rfl ?_
    refine Runs.skip ?_
    refine thenQ_normal ?_
    refine Runs.has [(0, .d (.int _ _)), (1, .d (.int _ _)), (4, .d (.int _ _))] ⟨rfl, rfl, rfl, trivial⟩ ?_
    refine Runs.seq ?_
    refine Runs.rseq ?_
    refine RO.opv (v' := .d (.int _ _)) (opv_move rfl) rfl ?_
    refine RO.opv (v' := .d (.int _ _)) (opv_move rfl) rfl ?_
    refine RO.opc (opv_bin rfl rfl rfl) (fun h2 => ?_) (fun h2 => ?_)
    · try simp only [Z.a, Z.b, Z.c, Z.d, Z.e, Z.f, Z.g, Z.h, Z.i, Z.j, Z.k, Z.l, Z.m] at h2
      have q2 := h2
      refine RO.nil ?_
      refine Runs.condT rfl ?_
      refine Runs.has [(4, .d (.int _ _))] ⟨rfl, trivial⟩ ?_
      refine Runs.rseq ?_
      refine RO.opv (v' := .d (.int _ _)) (opv_assign rfl) rfl ?_
      refine RO.nil ?_
      refine Runs.ret ?_
      refine thenQ_ret ?_
      refine EndQ.tmp (.inr rfl) rfl rfl 0 (by exact Nat.le_refl _) (by exact Nat.zero_le _) trivial ⟨?_, rfl⟩
      refine int_eq ?_; unfold cmpI; rw [if_neg (by omega), if_pos (by omega)]
    · try simp only [Z.a, Z.b, Z.c, Z.d, Z.e, Z.f, Z.g, Z.h, Z.i, Z.j, Z.k, Z.l, Z.m] at h2
      have q2 := h2
      refine RO.nil ?_
      refine Runs.condF rfl ?_
      refine Runs.skip ?_
      refine thenQ_normal ?_
      refine Runs.has [(4, .d (.int _ _))] ⟨rfl, trivial⟩ ?_
      refine Runs.rseq ?_
      refine RO.opv (v' := .d (.int _ _)) (opv_assign rfl) rfl ?_
      refine RO.nil ?_
      refine Runs.ret ?_
      refine EndQ.tmp (.inr rfl) rfl rfl 0 (by exact Nat.le_refl _) (by exact Nat.zero_le _) trivial ⟨?_, rfl⟩
      refine int_eq ?_; unfold cmpI; rw [if_neg (by omega), if_neg (by omega)]
theorem rtexts_fn (a b : ByteArray) (ha : a.size ≤ 2 ^ 30) (hb : b.size ≤ 2 ^ 30) : Fn Try.prog 60 [.d (.str a), .d (.str b)] [] (.d (.int .i64 (cmpS a b))) [] := by
  have la := ba_len a
  have lb := ba_len b
  refine Does.run Try.func60 rfl Try.ntmps60 rfl fun K hK => ?_
  refine Runs.rseq ?_
  refine RO.opv (v' := .d (.int _ _)) (opv_assign rfl) rfl ?_
  refine RO.nil ?_
  refine Runs.seq ?_
  refine Runs.rseq ?_
  refine RO.opv (v' := .d (.int _ _)) (opv_assign rfl) rfl ?_
  refine RO.nil ?_
  refine Runs.block ?_
  refine Runs.loopC (X := Nat) (fun i => i ≤ a.toList.length ∧ i ≤ b.toList.length ∧ ∀ j, j < i → a.toList[j]? = b.toList[j]?) (fun i => a.toList.length - i) [(0, .d (.str _)), (1, .d (.str _))] (fun i => [(5, .d (.int .i64 ((i : Nat) : Int)))]) [] (fun i => []) (0) ⟨rfl, rfl, trivial⟩ ⟨rfl, trivial⟩ rfl ⟨Nat.zero_le _, Nat.zero_le _, fun j h => absurd h (Nat.not_lt_zero _)⟩ fun i hi => ?_
  refine Runs.seq ?_
  refine Runs.rseq ?_
  refine RO.opv (v' := .d (.int _ _)) (opv_move rfl) rfl ?_
  refine RO.opv (v' := .d (.str _)) (opv_move rfl) rfl ?_
  refine RO.opv (v' := .d (.int _ _)) (opv_len rfl rfl rfl) rfl ?_
  refine RO.opv (v' := .d (.bool _)) (opv_bin rfl rfl rfl) rfl ?_
  refine RO.opc (opv_move rfl) (fun h1 => ?_) (fun h1 => ?_)
  · try simp only [Z.a, Z.b, Z.c, Z.d, Z.e, Z.f, Z.g, Z.h, Z.i, Z.j, Z.k, Z.l, Z.m] at h1
    have hi1 : i < a.toList.length := by omega
    refine RO.opgv (v' := .d (.int _ _)) rfl (opv_move rfl) rfl ?_
    refine RO.opgv (v' := .d (.str _)) rfl (opv_move rfl) rfl ?_
    refine RO.opgv (v' := .d (.int _ _)) rfl (opv_len rfl rfl rfl) rfl ?_
    refine RO.opgv (v' := .d (.bool _)) rfl (opv_bin rfl rfl rfl) rfl ?_
    refine RO.opc (opv_pick rfl rfl) (fun h2 => ?_) (fun h2 => ?_)
    · try simp only [Z.a, Z.b, Z.c, Z.d, Z.e, Z.f, Z.g, Z.h, Z.i, Z.j, Z.k, Z.l, Z.m] at h2
      have hi2 : i < b.toList.length := by omega
      have u1 := UInt8.toNat_lt a.toList[i]
      have u2 := UInt8.toNat_lt b.toList[i]
      refine RO.nil ?_
      refine Runs.condT rfl ?_
      refine Runs.skip ?_
      refine thenQ_normal ?_
      refine Runs.has [(0, .d (.str _)), (1, .d (.str _)), (5, .d (.int _ _))] ⟨rfl, rfl, rfl, trivial⟩ ?_
      refine Runs.seq ?_
      refine Runs.block ?_
      refine Runs.seq ?_
      refine Runs.drawn (by kernel_rfl) [] [false, false, false, false, false, false, false] [false, false, false, false, false, false, false] (by decide +kernel) ?_
      refine RD.opv (v' := .d (.str _)) (opv_move rfl) rfl ?_
      refine RD.opv (v' := .d (.int _ _)) (opv_move rfl) rfl ?_
      refine RD.opv (v' := .d (.int _ _)) (opv_index_str rfl rfl (by omega)) rfl ?_
      refine RD.opv (v' := .d (.str _)) (opv_move rfl) rfl ?_
      refine RD.opv (v' := .d (.int _ _)) (opv_move rfl) rfl ?_
      refine RD.opv (v' := .d (.int _ _)) (opv_index_str rfl rfl (by omega)) rfl ?_
      refine RD.opc (opv_bin rfl rfl rfl) (fun h3 => ?_) (fun h3 => ?_)
      · try simp only [Z.a, Z.b, Z.c, Z.d, Z.e, Z.f, Z.g, Z.h, Z.i, Z.j, Z.k, Z.l, Z.m] at h3
        have hne : a.toList[i] ≠ b.toList[i] := fun e => by rw [e] at h3; exact absurd rfl h3
        refine RD.nil ?_
        refine thenQ_normal ?_
        refine Runs.condT rfl ?_
        refine Runs.has [(0, .d (.str _)), (1, .d (.str _)), (5, .d (.int _ _))] ⟨rfl, rfl, rfl, trivial⟩ ?_
        refine Runs.seq ?_
        refine Runs.drawn (by kernel_rfl) [] [false, false, false, false, false, false, false, false, false, false] [false, false, false, false, false, false, false, false, false, false] (by decide +kernel) ?_
        refine RD.opv (v' := .d (.str _)) (opv_move rfl) rfl ?_
        refine RD.opv (v' := .d (.int _ _)) (opv_move rfl) rfl ?_
        refine RD.opv (v' := .d (.int _ _)) (opv_index_str rfl rfl (by omega)) rfl ?_
        refine RD.opv (v' := .d (.int _ _)) (opv_conv (r := ((a.toList[i].toNat : Nat) : Int)) rfl (wrap64 (by omega) (by omega))) rfl ?_
        refine RD.opv (v' := .d (.str _)) (opv_move rfl) rfl ?_
        refine RD.opv (v' := .d (.int _ _)) (opv_move rfl) rfl ?_
        refine RD.opv (v' := .d (.int _ _)) (opv_index_str rfl rfl (by omega)) rfl ?_
        refine RD.opv (v' := .d (.int _ _)) (opv_conv (r := ((b.toList[i].toNat : Nat) : Int)) rfl (wrap64 (by omega) (by omega))) rfl ?_
        refine RD.opv (v' := .d (.int _ _)) (opv_callF (rnums_fn _ _) rfl rfl rfl trivial) rfl ?_
        refine RD.opv (v' := .d (.int _ _)) (opv_assign rfl) rfl ?_
        refine RD.nil ?_
        refine thenQ_normal ?_
        refine Runs.ret ?_
        refine blockQ_ret ?_
        refine thenQ_ret ?_
        refine thenQ_ret ?_
        refine blockQ_ret ?_
        refine thenQ_ret ?_
        refine EndQ.tmp (.inr rfl) rfl rfl 0 (by exact Nat.le_refl _) (by exact Nat.zero_le _) trivial ⟨?_, rfl⟩
        refine int_eq ?_
        first
          | exact (cmpS_at hi1 hi2 hi.2.2 hne).symm
          | (rw [cmpS_pre (fun j h1 h2 => hi.2.2 j (by omega)), la, lb]; done)
      · try simp only [Z.a, Z.b, Z.c, Z.d, Z.e, Z.f, Z.g, Z.h, Z.i, Z.j, Z.k, Z.l, Z.m] at h3
        have heq : a.toList[i] = b.toList[i] := UInt8.toNat_inj.1 (by omega)
        refine RD.nil ?_
        refine thenQ_normal ?_
        refine Runs.condF rfl ?_
        refine Runs.skip ?_
        refine blockQ_normal ?_
        refine thenQ_normal ?_
        refine Runs.has [(0, .d (.str _)), (1, .d (.str _)), (5, .d (.int _ _))] ⟨rfl, rfl, rfl, trivial⟩ ?_
        refine Runs.region ?_
        refine RO.opv (v' := .d (.int _ _)) (opv_move rfl) rfl ?_
        refine RO.opv (v' := .d (.int _ _)) (opv_bin rfl rfl rfl) rfl ?_
        refine RO.opv (v' := .d (.int _ _)) (opv_assign rfl) rfl ?_
        refine RO.nil ?_
        refine thenQ_normal ?_
        refine ⟨i + 1, 0, (by rw [hK]; exact Nat.le_of_ble_eq_true rfl), ⟨rfl, rfl, trivial⟩, ⟨?_, trivial⟩, rfl, ?_, ?_⟩
        · refine int_eq ?_; rw [wrap64 (by omega) (by omega)]; omega
        · refine ⟨by omega, by omega, fun j hj => ?_⟩
          by_cases e : j = i
          · rw [e, List.getElem?_eq_getElem hi1, List.getElem?_eq_getElem hi2, heq]
          · exact hi.2.2 j (by omega)
        · omega
    · try simp only [Z.a, Z.b, Z.c, Z.d, Z.e, Z.f, Z.g, Z.h, Z.i, Z.j, Z.k, Z.l, Z.m] at h2
      have he : ¬ i < b.toList.length := by omega
      refine RO.nil ?_
      refine Runs.condF rfl ?_
      refine Runs.exit ?_
      refine thenQ_exit ?_
      refine thenQ_exit ?_
      refine blockQ_here ?_
      refine thenQ_normal ?_
      refine Runs.has [(0, .d (.str _)), (1, .d (.str _))] ⟨rfl, rfl, trivial⟩ ?_
      refine Runs.rseq ?_
      refine RO.opv (v' := .d (.str _)) (opv_move rfl) rfl ?_
      refine RO.opv (v' := .d (.int _ _)) (opv_len rfl rfl rfl) rfl ?_
      refine RO.opv (v' := .d (.str _)) (opv_move rfl) rfl ?_
      refine RO.opv (v' := .d (.int _ _)) (opv_len rfl rfl rfl) rfl ?_
      refine RO.opv (v' := .d (.int _ _)) (opv_callF (rnums_fn _ _) rfl rfl rfl trivial) rfl ?_
      refine RO.opv (v' := .d (.int _ _)) (opv_assign rfl) rfl ?_
      refine RO.nil ?_
      refine Runs.ret ?_
      refine EndQ.tmp (.inr rfl) rfl rfl 0 (by exact Nat.le_refl _) (by exact Nat.zero_le _) trivial ⟨?_, rfl⟩
      refine int_eq ?_
      first
        | exact (cmpS_at hi1 hi2 hi.2.2 hne).symm
        | (rw [cmpS_pre (fun j h1 h2 => hi.2.2 j (by omega)), la, lb]; done)
  · try simp only [Z.a, Z.b, Z.c, Z.d, Z.e, Z.f, Z.g, Z.h, Z.i, Z.j, Z.k, Z.l, Z.m] at h1
    have he : ¬ i < a.toList.length := by omega
    refine RO.off rfl ?_
    refine RO.off rfl ?_
    refine RO.off rfl ?_
    refine RO.off rfl ?_
    refine RO.opv (v' := .d (.bool false)) (opv_pick rfl rfl) rfl ?_
    refine RO.nil ?_
    refine Runs.condF rfl ?_
    refine Runs.exit ?_
    refine thenQ_exit ?_
    refine thenQ_exit ?_
    refine blockQ_here ?_
    refine thenQ_normal ?_
    refine Runs.has [(0, .d (.str _)), (1, .d (.str _))] ⟨rfl, rfl, trivial⟩ ?_
    refine Runs.rseq ?_
    refine RO.opv (v' := .d (.str _)) (opv_move rfl) rfl ?_
    refine RO.opv (v' := .d (.int _ _)) (opv_len rfl rfl rfl) rfl ?_
    refine RO.opv (v' := .d (.str _)) (opv_move rfl) rfl ?_
    refine RO.opv (v' := .d (.int _ _)) (opv_len rfl rfl rfl) rfl ?_
    refine RO.opv (v' := .d (.int _ _)) (opv_callF (rnums_fn _ _) rfl rfl rfl trivial) rfl ?_
    refine RO.opv (v' := .d (.int _ _)) (opv_assign rfl) rfl ?_
    refine RO.nil ?_
    refine Runs.ret ?_
    refine EndQ.tmp (.inr rfl) rfl rfl 0 (by exact Nat.le_refl _) (by exact Nat.zero_le _) trivial ⟨?_, rfl⟩
    refine int_eq ?_
    first
      | exact (cmpS_at hi1 hi2 hi.2.2 hne).symm
      | (rw [cmpS_pre (fun j h1 h2 => hi.2.2 j (by omega)), la, lb]; done)
theorem rbare_aux  : ∀ (m : Nat) (a b : Term), a.size ≤ m → a.bulk ≤ 2 ^ 30 → b.bulk ≤ 2 ^ 30 → Fn Try.prog 43 [.d (enc a), .d (enc b)] [] (.d (.int .i64 (a.bare b))) [] := by
  intro m
  induction m with
  | zero => intro a b h; have := a.size_kids; omega
  | succ m ih =>
  intro a b hm hb hb'
  have hS := a.size_kids
  have hU := a.bulk_kids
  have hU' := b.bulk_kids
  have hL := bulks_len a.kids
  have hL' := bulks_len b.kids
  refine Does.run Try.func43 rfl Try.ntmps43 rfl fun K hK => ?_
  refine Runs.rseq ?_
  refine RO.opn (v' := .ref 0 0) (O' := [_]) (opv_box_term rfl) rfl rfl ?_
  refine RO.opn (v' := .ref 1 0) (O' := [_, _]) (opv_box_term rfl) rfl rfl ?_
  refine RO.opv (v' := .d (.int _ _)) (opv_assign rfl) rfl ?_
  refine RO.nil ?_
  refine Runs.has [(2, .ref 0 0), (3, .ref 1 0), (4, .d (.int _ _))] ⟨rfl, rfl, rfl, trivial⟩ ?_
  refine Runs.rseq ?_
  refine RO.opv (v' := .ref 0 0) (opv_field_ref rfl rfl) rfl ?_
  refine RO.opv (v' := .d (.int _ _)) (opv_load_ref rfl rfl rfl) rfl ?_
  refine RO.opv (v' := .ref 1 0) (opv_field_ref rfl rfl) rfl ?_
  refine RO.opv (v' := .d (.int _ _)) (opv_load_ref rfl rfl rfl) rfl ?_
  refine RO.opv (v' := .d (.int _ _)) (opv_callF (rnums_fn _ _) rfl rfl rfl trivial) rfl ?_
  refine RO.opv (v' := .d (.int _ _)) (opv_assign rfl) rfl ?_
  refine RO.nil ?_
  refine Runs.has [(2, .ref 0 0), (3, .ref 1 0), (4, .d (.int _ _)), (5, .d (.int _ _))] ⟨rfl, rfl, rfl, rfl, trivial⟩ ?_
  refine Runs.seq ?_
  refine Runs.rseq ?_
  refine RO.opv (v' := .d (.int _ _)) (opv_move rfl) rfl ?_
  refine RO.opc (opv_bin rfl rfl rfl) (fun h1 => ?_) (fun h1 => ?_)
  · try simp only [Z.a, Z.b, Z.c, Z.d, Z.e, Z.f, Z.g, Z.h, Z.i, Z.j, Z.k, Z.l, Z.m] at h1
    have z0 : cmpI a.kind b.kind ≠ 0 := h1
    refine RO.nil ?_
    refine Runs.condT rfl ?_
    refine Runs.has [(2, .ref 0 0), (3, .ref 1 0), (4, .d (.int _ _)), (5, .d (.int _ _))] ⟨rfl, rfl, rfl, rfl, trivial⟩ ?_
    refine Runs.rseq ?_
    refine RO.opv (v' := .d (.int _ _)) (opv_move rfl) rfl ?_
    refine RO.opv (v' := .d (.int _ _)) (opv_assign rfl) rfl ?_
    refine RO.nil ?_
    refine Runs.ret ?_
    refine thenQ_ret ?_
    refine EndQ.tmp (.inr rfl) rfl rfl 0 (by exact Nat.le_refl _) (by exact Nat.zero_le _) trivial ⟨?_, rfl⟩
    refine int_eq ?_
    first
      | (rw [bare_eq, if_pos (.inl (by rw [headC_k z0]; exact z0)), headC_k z0]; done)
      | (rw [bare_eq, if_pos (.inr zv), headC_v z0 zv]; done)
      | exact hy.fin (.inr hk)
      | exact hy.fin (.inl hc0)
  · try simp only [Z.a, Z.b, Z.c, Z.d, Z.e, Z.f, Z.g, Z.h, Z.i, Z.j, Z.k, Z.l, Z.m] at h1
    have z0 : cmpI a.kind b.kind = 0 := by omega
    refine RO.nil ?_
    refine Runs.condF rfl ?_
    refine Runs.skip ?_
    refine thenQ_normal ?_
    refine Runs.has [(2, .ref 0 0), (3, .ref 1 0), (4, .d (.int _ _)), (5, .d (.int _ _))] ⟨rfl, rfl, rfl, rfl, trivial⟩ ?_
    refine Runs.seq ?_
    refine Runs.rseq ?_
    refine RO.opv (v' := .ref 0 0) (opv_field_ref rfl rfl) rfl ?_
    refine RO.opv (v' := .d (.int _ _)) (opv_load_ref rfl rfl rfl) rfl ?_
    refine RO.opv (v' := .d (.bool _)) (opv_bin rfl rfl rfl) rfl ?_
    refine RO.opc (opv_move rfl) (fun h2 => ?_) (fun h2 => ?_)
    · try simp only [Z.a, Z.b, Z.c, Z.d, Z.e, Z.f, Z.g, Z.h, Z.i, Z.j, Z.k, Z.l, Z.m] at h2
      have zv : a.kind = 1 ∨ a.kind = 2 := .inl h2
      refine RO.off rfl ?_
      refine RO.off rfl ?_
      refine RO.off rfl ?_
      refine RO.opv (v' := .d (.bool true)) (opv_pick rfl rfl) rfl ?_
      refine RO.nil ?_
      refine Runs.condT rfl ?_
      refine Runs.has [(2, .ref 0 0), (3, .ref 1 0), (4, .d (.int _ _)), (5, .d (.int _ _))] ⟨rfl, rfl, rfl, rfl, trivial⟩ ?_
      refine Runs.rseq ?_
      refine RO.opv (v' := .ref 0 1) (opv_field_ref rfl rfl) rfl ?_
      refine RO.opv (v' := .d (.int _ _)) (opv_load_ref rfl rfl rfl) rfl ?_
      refine RO.opv (v' := .ref 1 1) (opv_field_ref rfl rfl) rfl ?_
      refine RO.opv (v' := .d (.int _ _)) (opv_load_ref rfl rfl rfl) rfl ?_
      refine RO.opv (v' := .d (.int _ _)) (opv_callF (rnums_fn _ _) rfl rfl rfl trivial) rfl ?_
      refine RO.opv (v' := .d (.int _ _)) (opv_assign rfl) rfl ?_
      refine RO.nil ?_
      refine Runs.ret ?_
      refine thenQ_ret ?_
      refine EndQ.tmp (.inr rfl) rfl rfl 0 (by exact Nat.le_refl _) (by exact Nat.zero_le _) trivial ⟨?_, rfl⟩
      refine int_eq ?_
      first
        | (rw [bare_eq, if_pos (.inl (by rw [headC_k z0]; exact z0)), headC_k z0]; done)
        | (rw [bare_eq, if_pos (.inr zv), headC_v z0 zv]; done)
        | exact hy.fin (.inr hk)
        | exact hy.fin (.inl hc0)
    · try simp only [Z.a, Z.b, Z.c, Z.d, Z.e, Z.f, Z.g, Z.h, Z.i, Z.j, Z.k, Z.l, Z.m] at h2
      have z1 : ¬ a.kind = 1 := h2
      refine RO.opgv (v' := .ref 0 0) rfl (opv_field_ref rfl rfl) rfl ?_
      refine RO.opgv (v' := .d (.int _ _)) rfl (opv_load_ref rfl rfl rfl) rfl ?_
      refine RO.opgv (v' := .d (.bool _)) rfl (opv_bin rfl rfl rfl) rfl ?_
      refine RO.opc (opv_pick rfl rfl) (fun h3 => ?_) (fun h3 => ?_)
      · try simp only [Z.a, Z.b, Z.c, Z.d, Z.e, Z.f, Z.g, Z.h, Z.i, Z.j, Z.k, Z.l, Z.m] at h3
        have zv : a.kind = 1 ∨ a.kind = 2 := .inr h3
        refine RO.nil ?_
        refine Runs.condT rfl ?_
        refine Runs.has [(2, .ref 0 0), (3, .ref 1 0), (4, .d (.int _ _)), (5, .d (.int _ _))] ⟨rfl, rfl, rfl, rfl, trivial⟩ ?_
        refine Runs.rseq ?_
        refine RO.opv (v' := .ref 0 1) (opv_field_ref rfl rfl) rfl ?_
        refine RO.opv (v' := .d (.int _ _)) (opv_load_ref rfl rfl rfl) rfl ?_
        refine RO.opv (v' := .ref 1 1) (opv_field_ref rfl rfl) rfl ?_
        refine RO.opv (v' := .d (.int _ _)) (opv_load_ref rfl rfl rfl) rfl ?_
        refine RO.opv (v' := .d (.int _ _)) (opv_callF (rnums_fn _ _) rfl rfl rfl trivial) rfl ?_
        refine RO.opv (v' := .d (.int _ _)) (opv_assign rfl) rfl ?_
        refine RO.nil ?_
        refine Runs.ret ?_
        refine thenQ_ret ?_
        refine EndQ.tmp (.inr rfl) rfl rfl 0 (by exact Nat.le_refl _) (by exact Nat.zero_le _) trivial ⟨?_, rfl⟩
        refine int_eq ?_
        first
          | (rw [bare_eq, if_pos (.inl (by rw [headC_k z0]; exact z0)), headC_k z0]; done)
          | (rw [bare_eq, if_pos (.inr zv), headC_v z0 zv]; done)
          | exact hy.fin (.inr hk)
          | exact hy.fin (.inl hc0)
      · try simp only [Z.a, Z.b, Z.c, Z.d, Z.e, Z.f, Z.g, Z.h, Z.i, Z.j, Z.k, Z.l, Z.m] at h3
        have z2 : ¬ a.kind = 2 := h3
        refine RO.nil ?_
        refine Runs.condF rfl ?_
        refine Runs.skip ?_
        refine thenQ_normal ?_
        refine Runs.has [(2, .ref 0 0), (3, .ref 1 0), (4, .d (.int _ _)), (5, .d (.int _ _))] ⟨rfl, rfl, rfl, rfl, trivial⟩ ?_
        refine Runs.rseq ?_
        refine RO.opv (v' := .ref 0 3) (opv_field_ref rfl rfl) rfl ?_
        refine RO.opv (v' := .d (.list (encs _))) (opv_load_ref rfl rfl rfl) rfl ?_
        refine RO.opv (v' := .d (.int _ _)) (opv_len_terms rfl) rfl ?_
        refine RO.opv (v' := .ref 1 3) (opv_field_ref rfl rfl) rfl ?_
        refine RO.opv (v' := .d (.list (encs _))) (opv_load_ref rfl rfl rfl) rfl ?_
        refine RO.opv (v' := .d (.int _ _)) (opv_len_terms rfl) rfl ?_
        refine RO.opv (v' := .d (.int _ _)) (opv_callF (rnums_fn _ _) rfl rfl rfl trivial) rfl ?_
        refine RO.opv (v' := .d (.int _ _)) (opv_assign rfl) rfl ?_
        refine RO.nil ?_
        refine Runs.has [(2, .ref 0 0), (3, .ref 1 0), (4, .d (.int _ _)), (5, .d (.int _ _))] ⟨rfl, rfl, rfl, rfl, trivial⟩ ?_
        refine Runs.seq ?_
        refine Runs.rseq ?_
        refine RO.opv (v' := .d (.int _ _)) (opv_move rfl) rfl ?_
        refine RO.opv (v' := .d (.bool _)) (opv_bin rfl rfl rfl) rfl ?_
        refine RO.opc (opv_move rfl) (fun h4 => ?_) (fun h4 => ?_)
        · try simp only [Z.a, Z.b, Z.c, Z.d, Z.e, Z.f, Z.g, Z.h, Z.i, Z.j, Z.k, Z.l, Z.m] at h4
          have z3 : cmpI a.kids.length b.kids.length = 0 := h4
          refine RO.opgv (v' := .ref 0 0) rfl (opv_field_ref rfl rfl) rfl ?_
          refine RO.opgv (v' := .d (.int _ _)) rfl (opv_load_ref rfl rfl rfl) rfl ?_
          refine RO.opgv (v' := .d (.bool _)) rfl (opv_bin rfl rfl rfl) rfl ?_
          refine RO.opc (opv_pick rfl rfl) (fun h5 => ?_) (fun h5 => ?_)
          · try simp only [Z.a, Z.b, Z.c, Z.d, Z.e, Z.f, Z.g, Z.h, Z.i, Z.j, Z.k, Z.l, Z.m] at h5
            have z4 : ¬ a.kind = 3 := h5
            refine RO.nil ?_
            refine Runs.condT rfl ?_
            refine Runs.has [(2, .ref 0 0), (3, .ref 1 0), (4, .d (.int _ _)), (5, .d (.int _ _))] ⟨rfl, rfl, rfl, rfl, trivial⟩ ?_
            refine Runs.region ?_
            refine RO.opv (v' := .ref 0 1) (opv_field_ref rfl rfl) rfl ?_
            refine RO.opv (v' := .d (.int _ _)) (opv_load_ref rfl rfl rfl) rfl ?_
            refine RO.opv (v' := .ref 1 1) (opv_field_ref rfl rfl) rfl ?_
            refine RO.opv (v' := .d (.int _ _)) (opv_load_ref rfl rfl rfl) rfl ?_
            refine RO.opv (v' := .d (.int _ _)) (opv_callF (rnums_fn _ _) rfl rfl rfl trivial) rfl ?_
            refine RO.opv (v' := .d (.int _ _)) (opv_assign rfl) rfl ?_
            refine RO.nil ?_
            refine thenQ_normal ?_
            refine Runs.has [(2, .ref 0 0), (3, .ref 1 0), (4, .d (.int _ _)), (5, .d (.int _ _))] ⟨rfl, rfl, rfl, rfl, trivial⟩ ?_
            refine Runs.seq ?_
            refine Runs.rseq ?_
            refine RO.opv (v' := .d (.int _ _)) (opv_move rfl) rfl ?_
            refine RO.opc (opv_bin rfl rfl rfl) (fun h6 => ?_) (fun h6 => ?_)
            · try simp only [Z.a, Z.b, Z.c, Z.d, Z.e, Z.f, Z.g, Z.h, Z.i, Z.j, Z.k, Z.l, Z.m] at h6
              have z5 := h6
              refine RO.nil ?_
              refine Runs.condT rfl ?_
              refine Runs.has [(2, .ref 0 0), (3, .ref 1 0), (4, .d (.int _ _)), (5, .d (.int _ _))] ⟨rfl, rfl, rfl, rfl, trivial⟩ ?_
              refine Runs.region ?_
              refine RO.opv (v' := .ref 0 2) (opv_field_ref rfl rfl) rfl ?_
              refine RO.opv (v' := .d (.str _)) (opv_load_ref rfl rfl rfl) rfl ?_
              refine RO.opv (v' := .ref 1 2) (opv_field_ref rfl rfl) rfl ?_
              refine RO.opv (v' := .d (.str _)) (opv_load_ref rfl rfl rfl) rfl ?_
              refine RO.opv (v' := .d (.int _ _)) (opv_callF (rtexts_fn _ _ (by omega) (by omega)) rfl rfl rfl trivial) rfl ?_
              refine RO.opv (v' := .d (.int _ _)) (opv_assign rfl) rfl ?_
              refine RO.nil ?_
              refine thenQ_normal ?_
              refine Runs.has [(2, .ref 0 0), (3, .ref 1 0), (4, .d (.int _ _)), (5, .d (.int _ _))] ⟨rfl, rfl, rfl, rfl, trivial⟩ ?_
              refine Runs.seq ?_
              refine Runs.rseq ?_
              refine RO.opv (v' := .d (.int _ _)) (opv_assign rfl) rfl ?_
              refine RO.nil ?_
              refine Runs.block ?_
              refine Runs.loopC (X := (Int × Nat)) (fun y => Br a b y.1 y.2) (fun y => a.kids.length - y.2) [(2, .ref 0 0), (3, .ref 1 0), (4, .d (.int _ _))] (fun y => [(5, .d (.int .i64 y.1)), (6, .d (.int .i64 ((y.2 : Nat) : Int)))]) [_, _] (fun y => []) ((headC a b, 0)) ⟨rfl, rfl, rfl, trivial⟩ ⟨(by refine int_eq ?_; first | exact (headC_l z0 z1 z2 z3).symm | exact (headC_f z0 z4 z3).symm | exact (headC_n z0 z1 z2 z4 z3 z5).symm | exact (headC_s z0 z1 z2 z4 z3 z5).symm), rfl, trivial⟩ rfl (Br.start z1 z2) fun y hy => ?_
              refine Runs.seq ?_
              refine Runs.rseq ?_
              refine RO.opv (v' := .d (.int _ _)) (opv_move rfl) rfl ?_
              refine RO.opv (v' := .ref 0 3) (opv_field_ref rfl rfl) rfl ?_
              refine RO.opv (v' := .d (.list (encs _))) (opv_load_ref rfl rfl rfl) rfl ?_
              refine RO.opv (v' := .d (.int _ _)) (opv_len_terms rfl) rfl ?_
              refine RO.opv (v' := .d (.bool _)) (opv_bin rfl rfl rfl) rfl ?_
              refine RO.opc (opv_move rfl) (fun h7 => ?_) (fun h7 => ?_)
              · try simp only [Z.a, Z.b, Z.c, Z.d, Z.e, Z.f, Z.g, Z.h, Z.i, Z.j, Z.k, Z.l, Z.m] at h7
                have hk : y.2 < a.kids.length := by omega
                refine RO.opgv (v' := .d (.int _ _)) rfl (opv_move rfl) rfl ?_
                refine RO.opgv (v' := .d (.bool _)) rfl (opv_bin rfl rfl rfl) rfl ?_
                refine RO.opc (opv_pick rfl rfl) (fun h8 => ?_) (fun h8 => ?_)
                · try simp only [Z.a, Z.b, Z.c, Z.d, Z.e, Z.f, Z.g, Z.h, Z.i, Z.j, Z.k, Z.l, Z.m] at h8
                  have hc0 : y.1 = 0 := h8
                  rw [hc0] at hy
                  obtain ⟨hkl, _⟩ := hy.on rfl
                  have hk' : y.2 < b.kids.length := by omega
                  refine RO.nil ?_
                  refine Runs.condT rfl ?_
                  refine Runs.skip ?_
                  refine thenQ_normal ?_
                  refine Runs.has [(2, .ref 0 0), (3, .ref 1 0), (4, .d (.int _ _)), (5, .d (.int _ _)), (6, .d (.int _ _))] ⟨rfl, rfl, rfl, rfl, rfl, trivial⟩ ?_
                  refine Runs.seq ?_
                  refine Runs.block ?_
                  refine Runs.drawn (by kernel_rfl) [] [false, false, false, false, false, false, false, false, false, false, false, false] [false, false, false, false, false, false, false, false, false, false, false, false] (by decide +kernel) ?_
                  refine RD.opv (v' := .ref 0 3) (opv_field_ref rfl rfl) rfl ?_
                  refine RD.opv (v' := .d (.list (encs _))) (opv_load_ref rfl rfl rfl) rfl ?_
                  refine RD.opv (v' := .d (.int _ _)) (opv_move rfl) rfl ?_
                  refine RD.opv (v' := .d (.ptr _)) (opv_index_terms rfl rfl (by omega)) rfl ?_
                  refine RD.opv (v' := .d (enc _)) (opv_load_pterm rfl) rfl ?_
                  refine RD.opv (v' := .ref 1 3) (opv_field_ref rfl rfl) rfl ?_
                  refine RD.opv (v' := .d (.list (encs _))) (opv_load_ref rfl rfl rfl) rfl ?_
                  refine RD.opv (v' := .d (.int _ _)) (opv_move rfl) rfl ?_
                  refine RD.opv (v' := .d (.ptr _)) (opv_index_terms rfl rfl (by omega)) rfl ?_
                  refine RD.opv (v' := .d (enc _)) (opv_load_pterm rfl) rfl ?_
                  refine RD.opv (v' := .d (.int _ _)) (opv_callF (ih a.kids[y.2] b.kids[y.2] (by have := sizes_mem (List.getElem_mem hk); omega) (by have := bulks_mem (List.getElem_mem hk); omega) (by have := bulks_mem (List.getElem_mem hk'); omega)) rfl rfl rfl trivial) rfl ?_
                  refine RD.opv (v' := .d (.int _ _)) (opv_assign rfl) rfl ?_
                  refine RD.nil ?_
                  refine blockQ_normal ?_
                  refine thenQ_normal ?_
                  refine Runs.has [(2, .ref 0 0), (3, .ref 1 0), (4, .d (.int _ _)), (5, .d (.int _ _)), (6, .d (.int _ _))] ⟨rfl, rfl, rfl, rfl, rfl, trivial⟩ ?_
                  refine Runs.region ?_
                  refine RO.opv (v' := .d (.int _ _)) (opv_move rfl) rfl ?_
                  refine RO.opv (v' := .d (.int _ _)) (opv_bin rfl rfl rfl) rfl ?_
                  refine RO.opv (v' := .d (.int _ _)) (opv_assign rfl) rfl ?_
                  refine RO.nil ?_
                  refine thenQ_normal ?_
                  refine ⟨(a.kids[y.2].bare b.kids[y.2], y.2 + 1), 2, (by rw [hK]; exact Nat.le_of_ble_eq_true rfl), ⟨rfl, rfl, rfl, trivial⟩, ⟨?_, ?_, trivial⟩, rfl, ?_, ?_⟩
                  · rfl
                  · refine int_eq ?_; rw [wrap64 (by omega) (by omega)]; show ((y.2 : Nat) : Int) + 1 = ((y.2 + 1 : Nat) : Int); omega
                  · exact hy.next hk hk'
                  · show a.kids.length - (y.2 + 1) < _; omega
                · try simp only [Z.a, Z.b, Z.c, Z.d, Z.e, Z.f, Z.g, Z.h, Z.i, Z.j, Z.k, Z.l, Z.m] at h8
                  have hc0 : y.1 ≠ 0 := h8
                  refine RO.nil ?_
                  refine Runs.condF rfl ?_
                  refine Runs.exit ?_
                  refine thenQ_exit ?_
                  refine thenQ_exit ?_
                  refine blockQ_here ?_
                  refine thenQ_normal ?_
                  refine Runs.has [(4, .d (.int _ _)), (5, .d (.int _ _))] ⟨rfl, rfl, trivial⟩ ?_
                  refine Runs.rseq ?_
                  refine RO.opv (v' := .d (.int _ _)) (opv_move rfl) rfl ?_
                  refine RO.opv (v' := .d (.int _ _)) (opv_assign rfl) rfl ?_
                  refine RO.nil ?_
                  refine Runs.ret ?_
                  refine EndQ.tmp (.inr rfl) rfl rfl 0 (by exact Nat.le_refl _) (by exact Nat.zero_le _) trivial ⟨?_, rfl⟩
                  refine int_eq ?_
                  first
                    | (rw [bare_eq, if_pos (.inl (by rw [headC_k z0]; exact z0)), headC_k z0]; done)
                    | (rw [bare_eq, if_pos (.inr zv), headC_v z0 zv]; done)
                    | exact hy.fin (.inr hk)
                    | exact hy.fin (.inl hc0)
              · try simp only [Z.a, Z.b, Z.c, Z.d, Z.e, Z.f, Z.g, Z.h, Z.i, Z.j, Z.k, Z.l, Z.m] at h7
                have hk : y.2 = a.kids.length := by have := hy.le; omega
                refine RO.off rfl ?_
                refine RO.off rfl ?_
                refine RO.opv (v' := .d (.bool false)) (opv_pick rfl rfl) rfl ?_
                refine RO.nil ?_
                refine Runs.condF rfl ?_
                refine Runs.exit ?_
                refine thenQ_exit ?_
                refine thenQ_exit ?_
                refine blockQ_here ?_
                refine thenQ_normal ?_
                refine Runs.has [(4, .d (.int _ _)), (5, .d (.int _ _))] ⟨rfl, rfl, trivial⟩ ?_
                refine Runs.rseq ?_
                refine RO.opv (v' := .d (.int _ _)) (opv_move rfl) rfl ?_
                refine RO.opv (v' := .d (.int _ _)) (opv_assign rfl) rfl ?_
                refine RO.nil ?_
                refine Runs.ret ?_
                refine EndQ.tmp (.inr rfl) rfl rfl 0 (by exact Nat.le_refl _) (by exact Nat.zero_le _) trivial ⟨?_, rfl⟩
                refine int_eq ?_
                first
                  | (rw [bare_eq, if_pos (.inl (by rw [headC_k z0]; exact z0)), headC_k z0]; done)
                  | (rw [bare_eq, if_pos (.inr zv), headC_v z0 zv]; done)
                  | exact hy.fin (.inr hk)
                  | exact hy.fin (.inl hc0)
            · try simp only [Z.a, Z.b, Z.c, Z.d, Z.e, Z.f, Z.g, Z.h, Z.i, Z.j, Z.k, Z.l, Z.m] at h6
              have z5 := h6
              refine RO.nil ?_
              refine Runs.condF rfl ?_
              refine Runs.skip ?_
              refine thenQ_normal ?_
              refine Runs.has [(2, .ref 0 0), (3, .ref 1 0), (4, .d (.int _ _)), (5, .d (.int _ _))] ⟨rfl, rfl, rfl, rfl, trivial⟩ ?_
              refine Runs.seq ?_
              refine Runs.rseq ?_
              refine RO.opv (v' := .d (.int _ _)) (opv_assign rfl) rfl ?_
              refine RO.nil ?_
              refine Runs.block ?_
              refine Runs.loopC (X := (Int × Nat)) (fun y => Br a b y.1 y.2) (fun y => a.kids.length - y.2) [(2, .ref 0 0), (3, .ref 1 0), (4, .d (.int _ _))] (fun y => [(5, .d (.int .i64 y.1)), (6, .d (.int .i64 ((y.2 : Nat) : Int)))]) [_, _] (fun y => []) ((headC a b, 0)) ⟨rfl, rfl, rfl, trivial⟩ ⟨(by refine int_eq ?_; first | exact (headC_l z0 z1 z2 z3).symm | exact (headC_f z0 z4 z3).symm | exact (headC_n z0 z1 z2 z4 z3 z5).symm | exact (headC_s z0 z1 z2 z4 z3 z5).symm), rfl, trivial⟩ rfl (Br.start z1 z2) fun y hy => ?_
              refine Runs.seq ?_
              refine Runs.rseq ?_
              refine RO.opv (v' := .d (.int _ _)) (opv_move rfl) rfl ?_
              refine RO.opv (v' := .ref 0 3) (opv_field_ref rfl rfl) rfl ?_
              refine RO.opv (v' := .d (.list (encs _))) (opv_load_ref rfl rfl rfl) rfl ?_
              refine RO.opv (v' := .d (.int _ _)) (opv_len_terms rfl) rfl ?_
              refine RO.opv (v' := .d (.bool _)) (opv_bin rfl rfl rfl) rfl ?_
              refine RO.opc (opv_move rfl) (fun h9 => ?_) (fun h9 => ?_)
              · try simp only [Z.a, Z.b, Z.c, Z.d, Z.e, Z.f, Z.g, Z.h, Z.i, Z.j, Z.k, Z.l, Z.m] at h9
                have hk : y.2 < a.kids.length := by omega
                refine RO.opgv (v' := .d (.int _ _)) rfl (opv_move rfl) rfl ?_
                refine RO.opgv (v' := .d (.bool _)) rfl (opv_bin rfl rfl rfl) rfl ?_
                refine RO.opc (opv_pick rfl rfl) (fun h10 => ?_) (fun h10 => ?_)
                · try simp only [Z.a, Z.b, Z.c, Z.d, Z.e, Z.f, Z.g, Z.h, Z.i, Z.j, Z.k, Z.l, Z.m] at h10
                  have hc0 : y.1 = 0 := h10
                  rw [hc0] at hy
                  obtain ⟨hkl, _⟩ := hy.on rfl
                  have hk' : y.2 < b.kids.length := by omega
                  refine RO.nil ?_
                  refine Runs.condT rfl ?_
                  refine Runs.skip ?_
                  refine thenQ_normal ?_
                  refine Runs.has [(2, .ref 0 0), (3, .ref 1 0), (4, .d (.int _ _)), (5, .d (.int _ _)), (6, .d (.int _ _))] ⟨rfl, rfl, rfl, rfl, rfl, trivial⟩ ?_
                  refine Runs.seq ?_
                  refine Runs.block ?_
                  refine Runs.drawn (by kernel_rfl) [] [false, false, false, false, false, false, false, false, false, false, false, false] [false, false, false, false, false, false, false, false, false, false, false, false] (by decide +kernel) ?_
                  refine RD.opv (v' := .ref 0 3) (opv_field_ref rfl rfl) rfl ?_
                  refine RD.opv (v' := .d (.list (encs _))) (opv_load_ref rfl rfl rfl) rfl ?_
                  refine RD.opv (v' := .d (.int _ _)) (opv_move rfl) rfl ?_
                  refine RD.opv (v' := .d (.ptr _)) (opv_index_terms rfl rfl (by omega)) rfl ?_
                  refine RD.opv (v' := .d (enc _)) (opv_load_pterm rfl) rfl ?_
                  refine RD.opv (v' := .ref 1 3) (opv_field_ref rfl rfl) rfl ?_
                  refine RD.opv (v' := .d (.list (encs _))) (opv_load_ref rfl rfl rfl) rfl ?_
                  refine RD.opv (v' := .d (.int _ _)) (opv_move rfl) rfl ?_
                  refine RD.opv (v' := .d (.ptr _)) (opv_index_terms rfl rfl (by omega)) rfl ?_
                  refine RD.opv (v' := .d (enc _)) (opv_load_pterm rfl) rfl ?_
                  refine RD.opv (v' := .d (.int _ _)) (opv_callF (ih a.kids[y.2] b.kids[y.2] (by have := sizes_mem (List.getElem_mem hk); omega) (by have := bulks_mem (List.getElem_mem hk); omega) (by have := bulks_mem (List.getElem_mem hk'); omega)) rfl rfl rfl trivial) rfl ?_
                  refine RD.opv (v' := .d (.int _ _)) (opv_assign rfl) rfl ?_
                  refine RD.nil ?_
                  refine blockQ_normal ?_
                  refine thenQ_normal ?_
                  refine Runs.has [(2, .ref 0 0), (3, .ref 1 0), (4, .d (.int _ _)), (5, .d (.int _ _)), (6, .d (.int _ _))] ⟨rfl, rfl, rfl, rfl, rfl, trivial⟩ ?_
                  refine Runs.region ?_
                  refine RO.opv (v' := .d (.int _ _)) (opv_move rfl) rfl ?_
                  refine RO.opv (v' := .d (.int _ _)) (opv_bin rfl rfl rfl) rfl ?_
                  refine RO.opv (v' := .d (.int _ _)) (opv_assign rfl) rfl ?_
                  refine RO.nil ?_
                  refine thenQ_normal ?_
                  refine ⟨(a.kids[y.2].bare b.kids[y.2], y.2 + 1), 2, (by rw [hK]; exact Nat.le_of_ble_eq_true rfl), ⟨rfl, rfl, rfl, trivial⟩, ⟨?_, ?_, trivial⟩, rfl, ?_, ?_⟩
                  · rfl
                  · refine int_eq ?_; rw [wrap64 (by omega) (by omega)]; show ((y.2 : Nat) : Int) + 1 = ((y.2 + 1 : Nat) : Int); omega
                  · exact hy.next hk hk'
                  · show a.kids.length - (y.2 + 1) < _; omega
                · try simp only [Z.a, Z.b, Z.c, Z.d, Z.e, Z.f, Z.g, Z.h, Z.i, Z.j, Z.k, Z.l, Z.m] at h10
                  have hc0 : y.1 ≠ 0 := h10
                  refine RO.nil ?_
                  refine Runs.condF rfl ?_
                  refine Runs.exit ?_
                  refine thenQ_exit ?_
                  refine thenQ_exit ?_
                  refine blockQ_here ?_
                  refine thenQ_normal ?_
                  refine Runs.has [(4, .d (.int _ _)), (5, .d (.int _ _))] ⟨rfl, rfl, trivial⟩ ?_
                  refine Runs.rseq ?_
                  refine RO.opv (v' := .d (.int _ _)) (opv_move rfl) rfl ?_
                  refine RO.opv (v' := .d (.int _ _)) (opv_assign rfl) rfl ?_
                  refine RO.nil ?_
                  refine Runs.ret ?_
                  refine EndQ.tmp (.inr rfl) rfl rfl 0 (by exact Nat.le_refl _) (by exact Nat.zero_le _) trivial ⟨?_, rfl⟩
                  refine int_eq ?_
                  first
                    | (rw [bare_eq, if_pos (.inl (by rw [headC_k z0]; exact z0)), headC_k z0]; done)
                    | (rw [bare_eq, if_pos (.inr zv), headC_v z0 zv]; done)
                    | exact hy.fin (.inr hk)
                    | exact hy.fin (.inl hc0)
              · try simp only [Z.a, Z.b, Z.c, Z.d, Z.e, Z.f, Z.g, Z.h, Z.i, Z.j, Z.k, Z.l, Z.m] at h9
                have hk : y.2 = a.kids.length := by have := hy.le; omega
                refine RO.off rfl ?_
                refine RO.off rfl ?_
                refine RO.opv (v' := .d (.bool false)) (opv_pick rfl rfl) rfl ?_
                refine RO.nil ?_
                refine Runs.condF rfl ?_
                refine Runs.exit ?_
                refine thenQ_exit ?_
                refine thenQ_exit ?_
                refine blockQ_here ?_
                refine thenQ_normal ?_
                refine Runs.has [(4, .d (.int _ _)), (5, .d (.int _ _))] ⟨rfl, rfl, trivial⟩ ?_
                refine Runs.rseq ?_
                refine RO.opv (v' := .d (.int _ _)) (opv_move rfl) rfl ?_
                refine RO.opv (v' := .d (.int _ _)) (opv_assign rfl) rfl ?_
                refine RO.nil ?_
                refine Runs.ret ?_
                refine EndQ.tmp (.inr rfl) rfl rfl 0 (by exact Nat.le_refl _) (by exact Nat.zero_le _) trivial ⟨?_, rfl⟩
                refine int_eq ?_
                first
                  | (rw [bare_eq, if_pos (.inl (by rw [headC_k z0]; exact z0)), headC_k z0]; done)
                  | (rw [bare_eq, if_pos (.inr zv), headC_v z0 zv]; done)
                  | exact hy.fin (.inr hk)
                  | exact hy.fin (.inl hc0)
          · try simp only [Z.a, Z.b, Z.c, Z.d, Z.e, Z.f, Z.g, Z.h, Z.i, Z.j, Z.k, Z.l, Z.m] at h5
            have z4 : a.kind = 3 := by omega
            refine RO.nil ?_
            refine Runs.condF rfl ?_
            refine Runs.skip ?_
            refine thenQ_normal ?_
            refine Runs.has [(2, .ref 0 0), (3, .ref 1 0), (4, .d (.int _ _)), (5, .d (.int _ _))] ⟨rfl, rfl, rfl, rfl, trivial⟩ ?_
            refine Runs.seq ?_
            refine Runs.rseq ?_
            refine RO.opv (v' := .d (.int _ _)) (opv_move rfl) rfl ?_
            refine RO.opc (opv_bin rfl rfl rfl) (fun h11 => ?_) (fun h11 => ?_)
            · try simp only [Z.a, Z.b, Z.c, Z.d, Z.e, Z.f, Z.g, Z.h, Z.i, Z.j, Z.k, Z.l, Z.m] at h11
              have z5 := h11
              refine RO.nil ?_
              refine Runs.condT rfl ?_
              refine Runs.has [(2, .ref 0 0), (3, .ref 1 0), (4, .d (.int _ _)), (5, .d (.int _ _))] ⟨rfl, rfl, rfl, rfl, trivial⟩ ?_
              refine Runs.region ?_
              refine RO.opv (v' := .ref 0 2) (opv_field_ref rfl rfl) rfl ?_
              refine RO.opv (v' := .d (.str _)) (opv_load_ref rfl rfl rfl) rfl ?_
              refine RO.opv (v' := .ref 1 2) (opv_field_ref rfl rfl) rfl ?_
              refine RO.opv (v' := .d (.str _)) (opv_load_ref rfl rfl rfl) rfl ?_
              refine RO.opv (v' := .d (.int _ _)) (opv_callF (rtexts_fn _ _ (by omega) (by omega)) rfl rfl rfl trivial) rfl ?_
              refine RO.opv (v' := .d (.int _ _)) (opv_assign rfl) rfl ?_
              refine RO.nil ?_
              refine thenQ_normal ?_
              refine Runs.has [(2, .ref 0 0), (3, .ref 1 0), (4, .d (.int _ _)), (5, .d (.int _ _))] ⟨rfl, rfl, rfl, rfl, trivial⟩ ?_
              refine Runs.seq ?_
              refine Runs.rseq ?_
              refine RO.opv (v' := .d (.int _ _)) (opv_assign rfl) rfl ?_
              refine RO.nil ?_
              refine Runs.block ?_
              refine Runs.loopC (X := (Int × Nat)) (fun y => Br a b y.1 y.2) (fun y => a.kids.length - y.2) [(2, .ref 0 0), (3, .ref 1 0), (4, .d (.int _ _))] (fun y => [(5, .d (.int .i64 y.1)), (6, .d (.int .i64 ((y.2 : Nat) : Int)))]) [_, _] (fun y => []) ((headC a b, 0)) ⟨rfl, rfl, rfl, trivial⟩ ⟨(by refine int_eq ?_; first | exact (headC_l z0 z1 z2 z3).symm | exact (headC_f z0 z4 z3).symm | exact (headC_n z0 z1 z2 z4 z3 z5).symm | exact (headC_s z0 z1 z2 z4 z3 z5).symm), rfl, trivial⟩ rfl (Br.start z1 z2) fun y hy => ?_
              refine Runs.seq ?_
              refine Runs.rseq ?_
              refine RO.opv (v' := .d (.int _ _)) (opv_move rfl) rfl ?_
              refine RO.opv (v' := .ref 0 3) (opv_field_ref rfl rfl) rfl ?_
              refine RO.opv (v' := .d (.list (encs _))) (opv_load_ref rfl rfl rfl) rfl ?_
              refine RO.opv (v' := .d (.int _ _)) (opv_len_terms rfl) rfl ?_
              refine RO.opv (v' := .d (.bool _)) (opv_bin rfl rfl rfl) rfl ?_
              refine RO.opc (opv_move rfl) (fun h12 => ?_) (fun h12 => ?_)
              · try simp only [Z.a, Z.b, Z.c, Z.d, Z.e, Z.f, Z.g, Z.h, Z.i, Z.j, Z.k, Z.l, Z.m] at h12
                have hk : y.2 < a.kids.length := by omega
                refine RO.opgv (v' := .d (.int _ _)) rfl (opv_move rfl) rfl ?_
                refine RO.opgv (v' := .d (.bool _)) rfl (opv_bin rfl rfl rfl) rfl ?_
                refine RO.opc (opv_pick rfl rfl) (fun h13 => ?_) (fun h13 => ?_)
                · try simp only [Z.a, Z.b, Z.c, Z.d, Z.e, Z.f, Z.g, Z.h, Z.i, Z.j, Z.k, Z.l, Z.m] at h13
                  have hc0 : y.1 = 0 := h13
                  rw [hc0] at hy
                  obtain ⟨hkl, _⟩ := hy.on rfl
                  have hk' : y.2 < b.kids.length := by omega
                  refine RO.nil ?_
                  refine Runs.condT rfl ?_
                  refine Runs.skip ?_
                  refine thenQ_normal ?_
                  refine Runs.has [(2, .ref 0 0), (3, .ref 1 0), (4, .d (.int _ _)), (5, .d (.int _ _)), (6, .d (.int _ _))] ⟨rfl, rfl, rfl, rfl, rfl, trivial⟩ ?_
                  refine Runs.seq ?_
                  refine Runs.block ?_
                  refine Runs.drawn (by kernel_rfl) [] [false, false, false, false, false, false, false, false, false, false, false, false] [false, false, false, false, false, false, false, false, false, false, false, false] (by decide +kernel) ?_
                  refine RD.opv (v' := .ref 0 3) (opv_field_ref rfl rfl) rfl ?_
                  refine RD.opv (v' := .d (.list (encs _))) (opv_load_ref rfl rfl rfl) rfl ?_
                  refine RD.opv (v' := .d (.int _ _)) (opv_move rfl) rfl ?_
                  refine RD.opv (v' := .d (.ptr _)) (opv_index_terms rfl rfl (by omega)) rfl ?_
                  refine RD.opv (v' := .d (enc _)) (opv_load_pterm rfl) rfl ?_
                  refine RD.opv (v' := .ref 1 3) (opv_field_ref rfl rfl) rfl ?_
                  refine RD.opv (v' := .d (.list (encs _))) (opv_load_ref rfl rfl rfl) rfl ?_
                  refine RD.opv (v' := .d (.int _ _)) (opv_move rfl) rfl ?_
                  refine RD.opv (v' := .d (.ptr _)) (opv_index_terms rfl rfl (by omega)) rfl ?_
                  refine RD.opv (v' := .d (enc _)) (opv_load_pterm rfl) rfl ?_
                  refine RD.opv (v' := .d (.int _ _)) (opv_callF (ih a.kids[y.2] b.kids[y.2] (by have := sizes_mem (List.getElem_mem hk); omega) (by have := bulks_mem (List.getElem_mem hk); omega) (by have := bulks_mem (List.getElem_mem hk'); omega)) rfl rfl rfl trivial) rfl ?_
                  refine RD.opv (v' := .d (.int _ _)) (opv_assign rfl) rfl ?_
                  refine RD.nil ?_
                  refine blockQ_normal ?_
                  refine thenQ_normal ?_
                  refine Runs.has [(2, .ref 0 0), (3, .ref 1 0), (4, .d (.int _ _)), (5, .d (.int _ _)), (6, .d (.int _ _))] ⟨rfl, rfl, rfl, rfl, rfl, trivial⟩ ?_
                  refine Runs.region ?_
                  refine RO.opv (v' := .d (.int _ _)) (opv_move rfl) rfl ?_
                  refine RO.opv (v' := .d (.int _ _)) (opv_bin rfl rfl rfl) rfl ?_
                  refine RO.opv (v' := .d (.int _ _)) (opv_assign rfl) rfl ?_
                  refine RO.nil ?_
                  refine thenQ_normal ?_
                  refine ⟨(a.kids[y.2].bare b.kids[y.2], y.2 + 1), 2, (by rw [hK]; exact Nat.le_of_ble_eq_true rfl), ⟨rfl, rfl, rfl, trivial⟩, ⟨?_, ?_, trivial⟩, rfl, ?_, ?_⟩
                  · rfl
                  · refine int_eq ?_; rw [wrap64 (by omega) (by omega)]; show ((y.2 : Nat) : Int) + 1 = ((y.2 + 1 : Nat) : Int); omega
                  · exact hy.next hk hk'
                  · show a.kids.length - (y.2 + 1) < _; omega
                · try simp only [Z.a, Z.b, Z.c, Z.d, Z.e, Z.f, Z.g, Z.h, Z.i, Z.j, Z.k, Z.l, Z.m] at h13
                  have hc0 : y.1 ≠ 0 := h13
                  refine RO.nil ?_
                  refine Runs.condF rfl ?_
                  refine Runs.exit ?_
                  refine thenQ_exit ?_
                  refine thenQ_exit ?_
                  refine blockQ_here ?_
                  refine thenQ_normal ?_
                  refine Runs.has [(4, .d (.int _ _)), (5, .d (.int _ _))] ⟨rfl, rfl, trivial⟩ ?_
                  refine Runs.rseq ?_
                  refine RO.opv (v' := .d (.int _ _)) (opv_move rfl) rfl ?_
                  refine RO.opv (v' := .d (.int _ _)) (opv_assign rfl) rfl ?_
                  refine RO.nil ?_
                  refine Runs.ret ?_
                  refine EndQ.tmp (.inr rfl) rfl rfl 0 (by exact Nat.le_refl _) (by exact Nat.zero_le _) trivial ⟨?_, rfl⟩
                  refine int_eq ?_
                  first
                    | (rw [bare_eq, if_pos (.inl (by rw [headC_k z0]; exact z0)), headC_k z0]; done)
                    | (rw [bare_eq, if_pos (.inr zv), headC_v z0 zv]; done)
                    | exact hy.fin (.inr hk)
                    | exact hy.fin (.inl hc0)
              · try simp only [Z.a, Z.b, Z.c, Z.d, Z.e, Z.f, Z.g, Z.h, Z.i, Z.j, Z.k, Z.l, Z.m] at h12
                have hk : y.2 = a.kids.length := by have := hy.le; omega
                refine RO.off rfl ?_
                refine RO.off rfl ?_
                refine RO.opv (v' := .d (.bool false)) (opv_pick rfl rfl) rfl ?_
                refine RO.nil ?_
                refine Runs.condF rfl ?_
                refine Runs.exit ?_
                refine thenQ_exit ?_
                refine thenQ_exit ?_
                refine blockQ_here ?_
                refine thenQ_normal ?_
                refine Runs.has [(4, .d (.int _ _)), (5, .d (.int _ _))] ⟨rfl, rfl, trivial⟩ ?_
                refine Runs.rseq ?_
                refine RO.opv (v' := .d (.int _ _)) (opv_move rfl) rfl ?_
                refine RO.opv (v' := .d (.int _ _)) (opv_assign rfl) rfl ?_
                refine RO.nil ?_
                refine Runs.ret ?_
                refine EndQ.tmp (.inr rfl) rfl rfl 0 (by exact Nat.le_refl _) (by exact Nat.zero_le _) trivial ⟨?_, rfl⟩
                refine int_eq ?_
                first
                  | (rw [bare_eq, if_pos (.inl (by rw [headC_k z0]; exact z0)), headC_k z0]; done)
                  | (rw [bare_eq, if_pos (.inr zv), headC_v z0 zv]; done)
                  | exact hy.fin (.inr hk)
                  | exact hy.fin (.inl hc0)
            · try simp only [Z.a, Z.b, Z.c, Z.d, Z.e, Z.f, Z.g, Z.h, Z.i, Z.j, Z.k, Z.l, Z.m] at h11
              exact absurd z3 h11
        · try simp only [Z.a, Z.b, Z.c, Z.d, Z.e, Z.f, Z.g, Z.h, Z.i, Z.j, Z.k, Z.l, Z.m] at h4
          have z3 : cmpI a.kids.length b.kids.length ≠ 0 := h4
          refine RO.off rfl ?_
          refine RO.off rfl ?_
          refine RO.off rfl ?_
          refine RO.opv (v' := .d (.bool false)) (opv_pick rfl rfl) rfl ?_
          refine RO.nil ?_
          refine Runs.condF rfl ?_
          refine Runs.skip ?_
          refine thenQ_normal ?_
          refine Runs.has [(2, .ref 0 0), (3, .ref 1 0), (4, .d (.int _ _)), (5, .d (.int _ _))] ⟨rfl, rfl, rfl, rfl, trivial⟩ ?_
          refine Runs.seq ?_
          refine Runs.rseq ?_
          refine RO.opv (v' := .d (.int _ _)) (opv_move rfl) rfl ?_
          refine RO.opc (opv_bin rfl rfl rfl) (fun h14 => ?_) (fun h14 => ?_)
          · try simp only [Z.a, Z.b, Z.c, Z.d, Z.e, Z.f, Z.g, Z.h, Z.i, Z.j, Z.k, Z.l, Z.m] at h14
            exact absurd h14 z3
          · try simp only [Z.a, Z.b, Z.c, Z.d, Z.e, Z.f, Z.g, Z.h, Z.i, Z.j, Z.k, Z.l, Z.m] at h14
            have z5 := h14
            refine RO.nil ?_
            refine Runs.condF rfl ?_
            refine Runs.skip ?_
            refine thenQ_normal ?_
            refine Runs.has [(2, .ref 0 0), (3, .ref 1 0), (4, .d (.int _ _)), (5, .d (.int _ _))] ⟨rfl, rfl, rfl, rfl, trivial⟩ ?_
            refine Runs.seq ?_
            refine Runs.rseq ?_
            refine RO.opv (v' := .d (.int _ _)) (opv_assign rfl) rfl ?_
            refine RO.nil ?_
            refine Runs.block ?_
            refine Runs.loopC (X := (Int × Nat)) (fun y => Br a b y.1 y.2) (fun y => a.kids.length - y.2) [(2, .ref 0 0), (3, .ref 1 0), (4, .d (.int _ _))] (fun y => [(5, .d (.int .i64 y.1)), (6, .d (.int .i64 ((y.2 : Nat) : Int)))]) [_, _] (fun y => []) ((headC a b, 0)) ⟨rfl, rfl, rfl, trivial⟩ ⟨(by refine int_eq ?_; first | exact (headC_l z0 z1 z2 z3).symm | exact (headC_f z0 z4 z3).symm | exact (headC_n z0 z1 z2 z4 z3 z5).symm | exact (headC_s z0 z1 z2 z4 z3 z5).symm), rfl, trivial⟩ rfl (Br.start z1 z2) fun y hy => ?_
            refine Runs.seq ?_
            refine Runs.rseq ?_
            refine RO.opv (v' := .d (.int _ _)) (opv_move rfl) rfl ?_
            refine RO.opv (v' := .ref 0 3) (opv_field_ref rfl rfl) rfl ?_
            refine RO.opv (v' := .d (.list (encs _))) (opv_load_ref rfl rfl rfl) rfl ?_
            refine RO.opv (v' := .d (.int _ _)) (opv_len_terms rfl) rfl ?_
            refine RO.opv (v' := .d (.bool _)) (opv_bin rfl rfl rfl) rfl ?_
            refine RO.opc (opv_move rfl) (fun h15 => ?_) (fun h15 => ?_)
            · try simp only [Z.a, Z.b, Z.c, Z.d, Z.e, Z.f, Z.g, Z.h, Z.i, Z.j, Z.k, Z.l, Z.m] at h15
              have hk : y.2 < a.kids.length := by omega
              refine RO.opgv (v' := .d (.int _ _)) rfl (opv_move rfl) rfl ?_
              refine RO.opgv (v' := .d (.bool _)) rfl (opv_bin rfl rfl rfl) rfl ?_
              refine RO.opc (opv_pick rfl rfl) (fun h16 => ?_) (fun h16 => ?_)
              · try simp only [Z.a, Z.b, Z.c, Z.d, Z.e, Z.f, Z.g, Z.h, Z.i, Z.j, Z.k, Z.l, Z.m] at h16
                have hc0 : y.1 = 0 := h16
                rw [hc0] at hy
                obtain ⟨hkl, _⟩ := hy.on rfl
                have hk' : y.2 < b.kids.length := by omega
                refine RO.nil ?_
                refine Runs.condT rfl ?_
                refine Runs.skip ?_
                refine thenQ_normal ?_
                refine Runs.has [(2, .ref 0 0), (3, .ref 1 0), (4, .d (.int _ _)), (5, .d (.int _ _)), (6, .d (.int _ _))] ⟨rfl, rfl, rfl, rfl, rfl, trivial⟩ ?_
                refine Runs.seq ?_
                refine Runs.block ?_
                refine Runs.drawn (by kernel_rfl) [] [false, false, false, false, false, false, false, false, false, false, false, false] [false, false, false, false, false, false, false, false, false, false, false, false] (by decide +kernel) ?_
                refine RD.opv (v' := .ref 0 3) (opv_field_ref rfl rfl) rfl ?_
                refine RD.opv (v' := .d (.list (encs _))) (opv_load_ref rfl rfl rfl) rfl ?_
                refine RD.opv (v' := .d (.int _ _)) (opv_move rfl) rfl ?_
                refine RD.opv (v' := .d (.ptr _)) (opv_index_terms rfl rfl (by omega)) rfl ?_
                refine RD.opv (v' := .d (enc _)) (opv_load_pterm rfl) rfl ?_
                refine RD.opv (v' := .ref 1 3) (opv_field_ref rfl rfl) rfl ?_
                refine RD.opv (v' := .d (.list (encs _))) (opv_load_ref rfl rfl rfl) rfl ?_
                refine RD.opv (v' := .d (.int _ _)) (opv_move rfl) rfl ?_
                refine RD.opv (v' := .d (.ptr _)) (opv_index_terms rfl rfl (by omega)) rfl ?_
                refine RD.opv (v' := .d (enc _)) (opv_load_pterm rfl) rfl ?_
                refine RD.opv (v' := .d (.int _ _)) (opv_callF (ih a.kids[y.2] b.kids[y.2] (by have := sizes_mem (List.getElem_mem hk); omega) (by have := bulks_mem (List.getElem_mem hk); omega) (by have := bulks_mem (List.getElem_mem hk'); omega)) rfl rfl rfl trivial) rfl ?_
                refine RD.opv (v' := .d (.int _ _)) (opv_assign rfl) rfl ?_
                refine RD.nil ?_
                refine blockQ_normal ?_
                refine thenQ_normal ?_
                refine Runs.has [(2, .ref 0 0), (3, .ref 1 0), (4, .d (.int _ _)), (5, .d (.int _ _)), (6, .d (.int _ _))] ⟨rfl, rfl, rfl, rfl, rfl, trivial⟩ ?_
                refine Runs.region ?_
                refine RO.opv (v' := .d (.int _ _)) (opv_move rfl) rfl ?_
                refine RO.opv (v' := .d (.int _ _)) (opv_bin rfl rfl rfl) rfl ?_
                refine RO.opv (v' := .d (.int _ _)) (opv_assign rfl) rfl ?_
                refine RO.nil ?_
                refine thenQ_normal ?_
                refine ⟨(a.kids[y.2].bare b.kids[y.2], y.2 + 1), 2, (by rw [hK]; exact Nat.le_of_ble_eq_true rfl), ⟨rfl, rfl, rfl, trivial⟩, ⟨?_, ?_, trivial⟩, rfl, ?_, ?_⟩
                · rfl
                · refine int_eq ?_; rw [wrap64 (by omega) (by omega)]; show ((y.2 : Nat) : Int) + 1 = ((y.2 + 1 : Nat) : Int); omega
                · exact hy.next hk hk'
                · show a.kids.length - (y.2 + 1) < _; omega
              · try simp only [Z.a, Z.b, Z.c, Z.d, Z.e, Z.f, Z.g, Z.h, Z.i, Z.j, Z.k, Z.l, Z.m] at h16
                have hc0 : y.1 ≠ 0 := h16
                refine RO.nil ?_
                refine Runs.condF rfl ?_
                refine Runs.exit ?_
                refine thenQ_exit ?_
                refine thenQ_exit ?_
                refine blockQ_here ?_
                refine thenQ_normal ?_
                refine Runs.has [(4, .d (.int _ _)), (5, .d (.int _ _))] ⟨rfl, rfl, trivial⟩ ?_
                refine Runs.rseq ?_
                refine RO.opv (v' := .d (.int _ _)) (opv_move rfl) rfl ?_
                refine RO.opv (v' := .d (.int _ _)) (opv_assign rfl) rfl ?_
                refine RO.nil ?_
                refine Runs.ret ?_
                refine EndQ.tmp (.inr rfl) rfl rfl 0 (by exact Nat.le_refl _) (by exact Nat.zero_le _) trivial ⟨?_, rfl⟩
                refine int_eq ?_
                first
                  | (rw [bare_eq, if_pos (.inl (by rw [headC_k z0]; exact z0)), headC_k z0]; done)
                  | (rw [bare_eq, if_pos (.inr zv), headC_v z0 zv]; done)
                  | exact hy.fin (.inr hk)
                  | exact hy.fin (.inl hc0)
            · try simp only [Z.a, Z.b, Z.c, Z.d, Z.e, Z.f, Z.g, Z.h, Z.i, Z.j, Z.k, Z.l, Z.m] at h15
              have hk : y.2 = a.kids.length := by have := hy.le; omega
              refine RO.off rfl ?_
              refine RO.off rfl ?_
              refine RO.opv (v' := .d (.bool false)) (opv_pick rfl rfl) rfl ?_
              refine RO.nil ?_
              refine Runs.condF rfl ?_
              refine Runs.exit ?_
              refine thenQ_exit ?_
              refine thenQ_exit ?_
              refine blockQ_here ?_
              refine thenQ_normal ?_
              refine Runs.has [(4, .d (.int _ _)), (5, .d (.int _ _))] ⟨rfl, rfl, trivial⟩ ?_
              refine Runs.rseq ?_
              refine RO.opv (v' := .d (.int _ _)) (opv_move rfl) rfl ?_
              refine RO.opv (v' := .d (.int _ _)) (opv_assign rfl) rfl ?_
              refine RO.nil ?_
              refine Runs.ret ?_
              refine EndQ.tmp (.inr rfl) rfl rfl 0 (by exact Nat.le_refl _) (by exact Nat.zero_le _) trivial ⟨?_, rfl⟩
              refine int_eq ?_
              first
                | (rw [bare_eq, if_pos (.inl (by rw [headC_k z0]; exact z0)), headC_k z0]; done)
                | (rw [bare_eq, if_pos (.inr zv), headC_v z0 zv]; done)
                | exact hy.fin (.inr hk)
                | exact hy.fin (.inl hc0)
theorem rbare_fn (a b : Term) (hb : a.bulk ≤ 2 ^ 30) (hb' : b.bulk ≤ 2 ^ 30) : Fn Try.prog 43 [.d (enc a), .d (enc b)] [] (.d (.int .i64 (a.bare b))) [] := rbare_aux a.size a b (Nat.le_refl _) hb hb'
theorem rerase_aux  : ∀ (m : Nat) (t : Term), t.size ≤ m → t.bulk ≤ 2 ^ 30 → Fn Try.prog 44 [.d (enc t)] [] (.d (enc t.erase)) [] := by
  intro m
  induction m with
  | zero => intro t h; have := t.size_kids; omega
  | succ m ih =>
  intro t hm hb
  have hS := t.size_kids
  have hU := t.bulk_kids
  have hL := bulks_len t.kids
  refine Does.run Try.func44 rfl Try.ntmps44 rfl fun K hK => ?_
  refine Runs.rseq ?_
  refine RO.opn (v' := .ref 0 0) (O' := [_]) (opv_box_term rfl) rfl rfl ?_
  refine RO.opn (v' := .ref 1 0) (O' := [_, _]) (opv_alloc) rfl rfl ?_
  refine RO.nil ?_
  refine Runs.has [(1, .ref 0 0), (2, .ref 1 0)] ⟨rfl, rfl, trivial⟩ ?_
  refine Runs.seq ?_
  refine Runs.rseq ?_
  refine RO.opv (v' := .ref 0 0) (opv_field_ref rfl rfl) rfl ?_
  refine RO.opv (v' := .d (.int _ _)) (opv_load_ref rfl rfl rfl) rfl ?_
  refine RO.opv (v' := .d (.bool _)) (opv_bin rfl rfl rfl) rfl ?_
  refine RO.opc (opv_move rfl) (fun h1 => ?_) (fun h1 => ?_)
  · try simp only [Z.a, Z.b, Z.c, Z.d, Z.e, Z.f, Z.g, Z.h, Z.i, Z.j, Z.k, Z.l, Z.m] at h1
    have h4 : t.kind = 4 := h1
    refine RO.opgv (v' := .ref 0 3) rfl (opv_field_ref rfl rfl) rfl ?_
    refine RO.opgv (v' := .d (.list (encs _))) rfl (opv_load_ref rfl rfl rfl) rfl ?_
    refine RO.opgv (v' := .d (.int _ _)) rfl (opv_len_terms rfl) rfl ?_
    refine RO.opgv (v' := .d (.bool _)) rfl (opv_bin rfl rfl rfl) rfl ?_
    refine RO.opc (opv_pick rfl rfl) (fun h2 => ?_) (fun h2 => ?_)
    · try simp only [Z.a, Z.b, Z.c, Z.d, Z.e, Z.f, Z.g, Z.h, Z.i, Z.j, Z.k, Z.l, Z.m] at h2
      have hq : t.kids.length = 1 := by omega
      have hk0 : 0 < t.kids.length := by omega
      refine RO.nil ?_
      refine Runs.condT rfl ?_
      refine Runs.has [(1, .ref 0 0), (2, .ref 1 0)] ⟨rfl, rfl, trivial⟩ ?_
      refine Runs.rseq ?_
      refine RO.opv (v' := .ref 0 3) (opv_field_ref rfl rfl) rfl ?_
      refine RO.opv (v' := .d (.list (encs _))) (opv_load_ref rfl rfl rfl) rfl ?_
      refine RO.opv (v' := .d (.ptr _)) (opv_index_terms (i := 0) rfl rfl hk0) rfl ?_
      refine RO.opv (v' := .d (enc _)) (opv_load_pterm rfl) rfl ?_
      refine RO.opv (v' := .d (enc _)) (opv_callF (ih t.kids[0] (by have := sizes_mem (List.getElem_mem (l := t.kids) (n := 0) hk0); omega) (by have := bulks_mem (List.getElem_mem (l := t.kids) (n := 0) hk0); omega)) rfl rfl rfl trivial) rfl ?_
      refine RO.op0n (O' := [_, _]) (opv_store_term rfl rfl rfl (Nat.le_of_ble_eq_true rfl)) rfl ?_
      refine RO.nil ?_
      refine Runs.ret ?_
      refine thenQ_ret ?_
      refine EndQ.cell_term (.inr rfl) rfl rfl rfl rfl 0 (by exact Nat.le_refl _) (by exact Nat.zero_le _) ⟨?_, rfl⟩
      refine term_eq ?_; rw [erase_seal (isS_iff.2 ⟨h4, hq⟩) hk0]
    · try simp only [Z.a, Z.b, Z.c, Z.d, Z.e, Z.f, Z.g, Z.h, Z.i, Z.j, Z.k, Z.l, Z.m] at h2
      have hq : ¬ t.kids.length = 1 := by omega
      refine RO.nil ?_
      refine Runs.condF rfl ?_
      refine Runs.skip ?_
      refine thenQ_normal ?_
      refine Runs.has [(1, .ref 0 0), (2, .ref 1 0)] ⟨rfl, rfl, trivial⟩ ?_
      refine Runs.newbuf 24 4 ?_
      refine Runs.rseq ?_
      refine RO.opv (v' := .ref 0 0) (opv_field_ref rfl rfl) rfl ?_
      refine RO.opv (v' := .d (.int _ _)) (opv_load_ref rfl rfl rfl) rfl ?_
      refine RO.opv (v' := .ref 0 1) (opv_field_ref rfl rfl) rfl ?_
      refine RO.opv (v' := .d (.int _ _)) (opv_load_ref rfl rfl rfl) rfl ?_
      refine RO.opv (v' := .ref 0 2) (opv_field_ref rfl rfl) rfl ?_
      refine RO.opv (v' := .d (.str _)) (opv_load_ref rfl rfl rfl) rfl ?_
      refine RO.opv (v' := .agg _) (opv_build_own 2 3 rfl rfl rfl) rfl ?_
      refine RO.opn (v' := .ref 3 0) (O' := [_, _, _, _]) (opv_alloc) rfl rfl ?_
      refine RO.op0n (O' := [_, _, _, _]) (opv_store_ref rfl rfl rfl rfl rfl (Nat.le_of_ble_eq_true rfl) rfl) rfl ?_
      refine RO.nil ?_
      refine Runs.has [(1, .ref 0 0), (2, .ref 1 0), (3, .ref 3 0)] ⟨rfl, rfl, rfl, trivial⟩ ?_
      refine Runs.seq ?_
      refine Runs.rseq ?_
      refine RO.opv (v' := .d (.int _ _)) (opv_assign rfl) rfl ?_
      refine RO.nil ?_
      refine Runs.block ?_
      refine Runs.loopC (X := Nat) (fun i => i ≤ t.kids.length) (fun i => t.kids.length - i) [(1, .ref 0 0), (2, .ref 1 0), (3, .ref 3 0)] (fun i => [(4, .d (.int .i64 (i : Nat)))]) [_, _] (fun i => [.buf 24 4 (encs (erases (t.kids.take i))) i, .cells [.d (.int .i64 t.kind), .d (.int .i64 t.num), .d (.str t.name), .own 2 i]]) (0) ⟨rfl, rfl, rfl, trivial⟩ ⟨rfl, trivial⟩ rfl (by omega) fun i hi => ?_
      refine Runs.seq ?_
      refine Runs.rseq ?_
      refine RO.opv (v' := .d (.int _ _)) (opv_move rfl) rfl ?_
      refine RO.opv (v' := .ref 0 3) (opv_field_ref rfl rfl) rfl ?_
      refine RO.opv (v' := .d (.list (encs _))) (opv_load_ref rfl rfl rfl) rfl ?_
      refine RO.opv (v' := .d (.int _ _)) (opv_len_terms rfl) rfl ?_
      refine RO.opc (opv_bin rfl rfl rfl) (fun h3 => ?_) (fun h3 => ?_)
      · try simp only [Z.a, Z.b, Z.c, Z.d, Z.e, Z.f, Z.g, Z.h, Z.i, Z.j, Z.k, Z.l, Z.m] at h3
        have hk : i < t.kids.length := by omega
        refine RO.nil ?_
        refine Runs.condT rfl ?_
        refine Runs.skip ?_
        refine thenQ_normal ?_
        refine Runs.has [(1, .ref 0 0), (2, .ref 1 0), (3, .ref 3 0), (4, .d (.int _ _))] ⟨rfl, rfl, rfl, rfl, trivial⟩ ?_
        refine Runs.seq ?_
        refine Runs.block ?_
        refine Runs.drawn (by kernel_rfl) [] [false, false, false, false, false, false, false, false, false, false, false, false] [false, false, false, false, false, false, false, false, false, true, false, true] (by decide +kernel) ?_
        refine RD.opv (v' := .ref 3 3) (opv_field_ref rfl rfl) rfl ?_
        refine RD.opv (v' := .own 2 _) (opv_load_ref rfl rfl rfl) rfl ?_
        refine RD.opv (v' := .ref 0 3) (opv_field_ref rfl rfl) rfl ?_
        refine RD.opv (v' := .d (.list (encs _))) (opv_load_ref rfl rfl rfl) rfl ?_
        refine RD.opv (v' := .d (.int _ _)) (opv_move rfl) rfl ?_
        refine RD.opv (v' := .d (.ptr _)) (opv_index_terms rfl rfl (by omega)) rfl ?_
        refine RD.opv (v' := .d (enc _)) (opv_load_pterm rfl) rfl ?_
        refine RD.opv (v' := .d (enc _)) (opv_callF (ih t.kids[i] (by have := sizes_mem (List.getElem_mem (l := t.kids) (n := i) hk); omega) (by have := bulks_mem (List.getElem_mem (l := t.kids) (n := i) hk); omega)) rfl rfl rfl trivial) rfl ?_
        refine RD.opv (v' := .d (.list (encs _))) (opv_bs_term1 rfl ) rfl ?_
        refine RD.opn (v' := .own 2 _) (O' := [_, _, _, _]) (opv_append_terms rfl rfl rfl (by rw [erases_len]; simp; omega)) rfl rfl trivial ?_
        refine RD.opv (v' := .ref 3 3) (opv_field_ref rfl rfl) rfl ?_
        refine RD.op0n (O' := [_, _, _, _]) (opv_store_ref rfl rfl rfl rfl rfl (Nat.le_of_ble_eq_true rfl) rfl) rfl trivial ?_
        refine RD.nil ?_
        refine blockQ_normal ?_
        refine thenQ_normal ?_
        refine Runs.has [(1, .ref 0 0), (2, .ref 1 0), (3, .ref 3 0), (4, .d (.int _ _))] ⟨rfl, rfl, rfl, rfl, trivial⟩ ?_
        refine Runs.region ?_
        refine RO.opv (v' := .d (.int _ _)) (opv_move rfl) rfl ?_
        refine RO.opv (v' := .d (.int _ _)) (opv_bin rfl rfl rfl) rfl ?_
        refine RO.opv (v' := .d (.int _ _)) (opv_assign rfl) rfl ?_
        refine RO.nil ?_
        refine thenQ_normal ?_
        refine ⟨i+1, 4, (by rw [hK]; exact Nat.le_of_ble_eq_true rfl), ⟨rfl, rfl, rfl, trivial⟩, ⟨?_, trivial⟩, ?_, ?_, ?_⟩
        · refine int_eq ?_; rw [wrap64 (by omega) (by omega)]; omega
        · rw [erases_take hk]; rfl
        · omega
        · omega
      · try simp only [Z.a, Z.b, Z.c, Z.d, Z.e, Z.f, Z.g, Z.h, Z.i, Z.j, Z.k, Z.l, Z.m] at h3
        have hk : i = t.kids.length := by omega
        refine RO.nil ?_
        refine Runs.condF rfl ?_
        refine Runs.exit ?_
        refine thenQ_exit ?_
        refine thenQ_exit ?_
        refine blockQ_here ?_
        refine thenQ_normal ?_
        refine Runs.has [(2, .ref 1 0), (3, .ref 3 0)] ⟨rfl, rfl, trivial⟩ ?_
        refine Runs.shutC 3 3 rfl rfl rfl ?_
        refine Runs.rseq ?_
        refine RO.opv (v' := .d (enc _)) (opv_load_node rfl rfl rfl rfl) rfl ?_
        refine RO.op0n (O' := [_, _, _, _]) (opv_store_term rfl rfl rfl (Nat.le_of_ble_eq_true rfl)) rfl ?_
        refine RO.nil ?_
        refine Runs.ret ?_
        refine EndQ.cell_term (.inr rfl) rfl rfl rfl rfl 0 (by exact Nat.le_refl _) (by exact Nat.zero_le _) ⟨?_, rfl⟩
        refine term_eq ?_; rw [erase_node (by rw [Bool.eq_false_iff]; intro e; have := isS_iff.1 e; omega), hk, List.take_length]
  · try simp only [Z.a, Z.b, Z.c, Z.d, Z.e, Z.f, Z.g, Z.h, Z.i, Z.j, Z.k, Z.l, Z.m] at h1
    have h4 : ¬ t.kind = 4 := h1
    refine RO.off rfl ?_
    refine RO.off rfl ?_
    refine RO.off rfl ?_
    refine RO.off rfl ?_
    refine RO.opv (v' := .d (.bool false)) (opv_pick rfl rfl) rfl ?_
    refine RO.nil ?_
    refine Runs.condF rfl ?_
    refine Runs.skip ?_
    refine thenQ_normal ?_
    refine Runs.has [(1, .ref 0 0), (2, .ref 1 0)] ⟨rfl, rfl, trivial⟩ ?_
    refine Runs.newbuf 24 4 ?_
    refine Runs.rseq ?_
    refine RO.opv (v' := .ref 0 0) (opv_field_ref rfl rfl) rfl ?_
    refine RO.opv (v' := .d (.int _ _)) (opv_load_ref rfl rfl rfl) rfl ?_
    refine RO.opv (v' := .ref 0 1) (opv_field_ref rfl rfl) rfl ?_
    refine RO.opv (v' := .d (.int _ _)) (opv_load_ref rfl rfl rfl) rfl ?_
    refine RO.opv (v' := .ref 0 2) (opv_field_ref rfl rfl) rfl ?_
    refine RO.opv (v' := .d (.str _)) (opv_load_ref rfl rfl rfl) rfl ?_
    refine RO.opv (v' := .agg _) (opv_build_own 2 3 rfl rfl rfl) rfl ?_
    refine RO.opn (v' := .ref 3 0) (O' := [_, _, _, _]) (opv_alloc) rfl rfl ?_
    refine RO.op0n (O' := [_, _, _, _]) (opv_store_ref rfl rfl rfl rfl rfl (Nat.le_of_ble_eq_true rfl) rfl) rfl ?_
    refine RO.nil ?_
    refine Runs.has [(1, .ref 0 0), (2, .ref 1 0), (3, .ref 3 0)] ⟨rfl, rfl, rfl, trivial⟩ ?_
    refine Runs.seq ?_
    refine Runs.rseq ?_
    refine RO.opv (v' := .d (.int _ _)) (opv_assign rfl) rfl ?_
    refine RO.nil ?_
    refine Runs.block ?_
    refine Runs.loopC (X := Nat) (fun i => i ≤ t.kids.length) (fun i => t.kids.length - i) [(1, .ref 0 0), (2, .ref 1 0), (3, .ref 3 0)] (fun i => [(4, .d (.int .i64 (i : Nat)))]) [_, _] (fun i => [.buf 24 4 (encs (erases (t.kids.take i))) i, .cells [.d (.int .i64 t.kind), .d (.int .i64 t.num), .d (.str t.name), .own 2 i]]) (0) ⟨rfl, rfl, rfl, trivial⟩ ⟨rfl, trivial⟩ rfl (by omega) fun i hi => ?_
    refine Runs.seq ?_
    refine Runs.rseq ?_
    refine RO.opv (v' := .d (.int _ _)) (opv_move rfl) rfl ?_
    refine RO.opv (v' := .ref 0 3) (opv_field_ref rfl rfl) rfl ?_
    refine RO.opv (v' := .d (.list (encs _))) (opv_load_ref rfl rfl rfl) rfl ?_
    refine RO.opv (v' := .d (.int _ _)) (opv_len_terms rfl) rfl ?_
    refine RO.opc (opv_bin rfl rfl rfl) (fun h4 => ?_) (fun h4 => ?_)
    · try simp only [Z.a, Z.b, Z.c, Z.d, Z.e, Z.f, Z.g, Z.h, Z.i, Z.j, Z.k, Z.l, Z.m] at h4
      have hk : i < t.kids.length := by omega
      refine RO.nil ?_
      refine Runs.condT rfl ?_
      refine Runs.skip ?_
      refine thenQ_normal ?_
      refine Runs.has [(1, .ref 0 0), (2, .ref 1 0), (3, .ref 3 0), (4, .d (.int _ _))] ⟨rfl, rfl, rfl, rfl, trivial⟩ ?_
      refine Runs.seq ?_
      refine Runs.block ?_
      refine Runs.drawn (by kernel_rfl) [] [false, false, false, false, false, false, false, false, false, false, false, false] [false, false, false, false, false, false, false, false, false, true, false, true] (by decide +kernel) ?_
      refine RD.opv (v' := .ref 3 3) (opv_field_ref rfl rfl) rfl ?_
      refine RD.opv (v' := .own 2 _) (opv_load_ref rfl rfl rfl) rfl ?_
      refine RD.opv (v' := .ref 0 3) (opv_field_ref rfl rfl) rfl ?_
      refine RD.opv (v' := .d (.list (encs _))) (opv_load_ref rfl rfl rfl) rfl ?_
      refine RD.opv (v' := .d (.int _ _)) (opv_move rfl) rfl ?_
      refine RD.opv (v' := .d (.ptr _)) (opv_index_terms rfl rfl (by omega)) rfl ?_
      refine RD.opv (v' := .d (enc _)) (opv_load_pterm rfl) rfl ?_
      refine RD.opv (v' := .d (enc _)) (opv_callF (ih t.kids[i] (by have := sizes_mem (List.getElem_mem (l := t.kids) (n := i) hk); omega) (by have := bulks_mem (List.getElem_mem (l := t.kids) (n := i) hk); omega)) rfl rfl rfl trivial) rfl ?_
      refine RD.opv (v' := .d (.list (encs _))) (opv_bs_term1 rfl ) rfl ?_
      refine RD.opn (v' := .own 2 _) (O' := [_, _, _, _]) (opv_append_terms rfl rfl rfl (by rw [erases_len]; simp; omega)) rfl rfl trivial ?_
      refine RD.opv (v' := .ref 3 3) (opv_field_ref rfl rfl) rfl ?_
      refine RD.op0n (O' := [_, _, _, _]) (opv_store_ref rfl rfl rfl rfl rfl (Nat.le_of_ble_eq_true rfl) rfl) rfl trivial ?_
      refine RD.nil ?_
      refine blockQ_normal ?_
      refine thenQ_normal ?_
      refine Runs.has [(1, .ref 0 0), (2, .ref 1 0), (3, .ref 3 0), (4, .d (.int _ _))] ⟨rfl, rfl, rfl, rfl, trivial⟩ ?_
      refine Runs.region ?_
      refine RO.opv (v' := .d (.int _ _)) (opv_move rfl) rfl ?_
      refine RO.opv (v' := .d (.int _ _)) (opv_bin rfl rfl rfl) rfl ?_
      refine RO.opv (v' := .d (.int _ _)) (opv_assign rfl) rfl ?_
      refine RO.nil ?_
      refine thenQ_normal ?_
      refine ⟨i+1, 4, (by rw [hK]; exact Nat.le_of_ble_eq_true rfl), ⟨rfl, rfl, rfl, trivial⟩, ⟨?_, trivial⟩, ?_, ?_, ?_⟩
      · refine int_eq ?_; rw [wrap64 (by omega) (by omega)]; omega
      · rw [erases_take hk]; rfl
      · omega
      · omega
    · try simp only [Z.a, Z.b, Z.c, Z.d, Z.e, Z.f, Z.g, Z.h, Z.i, Z.j, Z.k, Z.l, Z.m] at h4
      have hk : i = t.kids.length := by omega
      refine RO.nil ?_
      refine Runs.condF rfl ?_
      refine Runs.exit ?_
      refine thenQ_exit ?_
      refine thenQ_exit ?_
      refine blockQ_here ?_
      refine thenQ_normal ?_
      refine Runs.has [(2, .ref 1 0), (3, .ref 3 0)] ⟨rfl, rfl, trivial⟩ ?_
      refine Runs.shutC 3 3 rfl rfl rfl ?_
      refine Runs.rseq ?_
      refine RO.opv (v' := .d (enc _)) (opv_load_node rfl rfl rfl rfl) rfl ?_
      refine RO.op0n (O' := [_, _, _, _]) (opv_store_term rfl rfl rfl (Nat.le_of_ble_eq_true rfl)) rfl ?_
      refine RO.nil ?_
      refine Runs.ret ?_
      refine EndQ.cell_term (.inr rfl) rfl rfl rfl rfl 0 (by exact Nat.le_refl _) (by exact Nat.zero_le _) ⟨?_, rfl⟩
      refine term_eq ?_; rw [erase_node (by rw [Bool.eq_false_iff]; intro e; have := isS_iff.1 e; omega), hk, List.take_length]
theorem rerase_fn (t : Term) (hb : t.bulk ≤ 2 ^ 30) : Fn Try.prog 44 [.d (enc t)] [] (.d (enc t.erase)) [] := rerase_aux t.size t (Nat.le_refl _) hb
theorem rcomp_fn (a b : Term) (ha : a.bulk ≤ 2 ^ 30) (hb : b.bulk ≤ 2 ^ 30) : Fn Try.prog 20 [.d (enc a), .d (enc b)] [] (.d (.int .i64 (compareT a b))) [] := by
  refine Does.run Try.func20 rfl Try.ntmps20 rfl fun K hK => ?_
  refine Runs.rseq ?_
  refine RO.opn (v' := .ref 0 0) (O' := [_]) (opv_box_term rfl) rfl rfl ?_
  refine RO.opn (v' := .ref 1 0) (O' := [_, _]) (opv_box_term rfl) rfl rfl ?_
  refine RO.opv (v' := .d (.int _ _)) (opv_assign rfl) rfl ?_
  refine RO.nil ?_
  refine Runs.has [(2, .ref 0 0), (3, .ref 1 0), (4, .d (.int _ _))] ⟨rfl, rfl, rfl, trivial⟩ ?_
  refine Runs.seq ?_
  refine Runs.drawn (by kernel_rfl) [] [false, false, false, false, false, false] [false, false, false, false, false, false] (by decide +kernel) ?_
  refine RD.opv (v' := .d (enc _)) (opv_load_term rfl rfl rfl) rfl ?_
  refine RD.opv (v' := .d (enc _)) (opv_callF (rerase_fn a ha) rfl rfl rfl trivial) rfl ?_
  refine RD.opv (v' := .d (enc _)) (opv_load_term rfl rfl rfl) rfl ?_
  refine RD.opv (v' := .d (enc _)) (opv_callF (rerase_fn b hb) rfl rfl rfl trivial) rfl ?_
  refine RD.opv (v' := .d (.int _ _)) (opv_callF (rbare_fn a.erase b.erase (Nat.le_trans (erase_bulk a) ha) (Nat.le_trans (erase_bulk b) hb)) rfl rfl rfl trivial) rfl ?_
  refine RD.opv (v' := .d (.int _ _)) (opv_assign rfl) rfl ?_
  refine RD.nil ?_
  refine thenQ_normal ?_
  refine Runs.ret ?_
  refine EndQ.tmp (.inr rfl) rfl rfl 0 (by exact Nat.le_refl _) (by exact Nat.zero_le _) trivial ⟨?_, rfl⟩
  rfl
theorem rsort_fn (l : List Term) (hn : l.length ≤ 30) (hbk : ∀ x ∈ l, x.bulk ≤ 2 ^ 30) : Fn Try.prog 23 [.d (.list (encs l))] [] (.d (.list (encs (sortR l)))) [] := by
  refine Does.run Try.func23 rfl Try.ntmps23 rfl fun K hK => ?_
  refine Runs.rseq ?_
  refine RO.opv (v' := .nil0) (opv_assign rfl) rfl ?_
  refine RO.nil ?_
  refine Runs.rseq ?_
  refine RO.opv (v' := .nil0) (opv_assign rfl) rfl ?_
  refine RO.nil ?_
  refine Runs.seq ?_
  refine Runs.nz 3 rfl ?_
  refine Runs.rseq ?_
  refine RO.opv (v' := .d (.int _ _)) (opv_assign rfl) rfl ?_
  refine RO.nil ?_
  refine Runs.block ?_
  refine Runs.loopC (X := Nat) (fun i => i ≤ l.length) (fun i => l.length - i) [(0, .d (.list (encs _))), (2, .nil0)] (fun i => [(3, .d (.list (encs (sortR (l.take i))))), (4, .d (.int .i64 ((i : Nat) : Int)))]) [] (fun i => []) (0) ⟨rfl, rfl, trivial⟩ ⟨rfl, rfl, trivial⟩ rfl (by omega) fun i hi => ?_
  refine Runs.seq ?_
  refine Runs.rseq ?_
  refine RO.opv (v' := .d (.int _ _)) (opv_move rfl) rfl ?_
  refine RO.opv (v' := .d (.list (encs _))) (opv_move rfl) rfl ?_
  refine RO.opv (v' := .d (.int _ _)) (opv_len_terms rfl) rfl ?_
  refine RO.opc (opv_bin rfl rfl rfl) (fun h1 => ?_) (fun h1 => ?_)
  · try simp only [Z.a, Z.b, Z.c, Z.d, Z.e, Z.f, Z.g, Z.h, Z.i, Z.j, Z.k, Z.l, Z.m] at h1
    have hk : i < l.length := by omega
    have hRl := sortR_len _ (l.take i) rfl
    rw [List.length_take] at hRl
    have hRb : ∀ z ∈ (sortR (l.take i)), z.bulk ≤ 2 ^ 30 := fun z hz => hbk z (List.mem_of_mem_take (sortR_mem _ _ z rfl hz))
    refine RO.nil ?_
    refine Runs.condT rfl ?_
    refine Runs.skip ?_
    refine thenQ_normal ?_
    refine Runs.has [(0, .d (.list (encs _))), (2, .nil0), (3, .d (.list (encs _))), (4, .d (.int _ _))] ⟨rfl, rfl, rfl, rfl, trivial⟩ ?_
    refine Runs.seq ?_
    refine Runs.block ?_
    refine Runs.rseq ?_
    refine RO.opv (v' := .d (.int _ _)) (opv_assign rfl) rfl ?_
    refine RO.nil ?_
    refine Runs.seq ?_
    refine Runs.block ?_
    refine Runs.loopC (X := Nat) (fun p => p ≤ (sortR (l.take i)).length ∧ ∀ j y, j < p → (sortR (l.take i))[j]? = some y → compareT y l[i] < 0) (fun p => (sortR (l.take i)).length - p) [(0, .d (.list (encs _))), (2, .nil0), (3, .d (.list (encs _))), (4, .d (.int _ _))] (fun p => [(5, .d (.int .i64 ((p : Nat) : Int)))]) [] (fun p => []) (0) ⟨rfl, rfl, rfl, rfl, trivial⟩ ⟨rfl, trivial⟩ rfl ⟨Nat.zero_le _, fun j y h => absurd h (Nat.not_lt_zero _)⟩ fun p hpq => ?_
    obtain ⟨hpl, hlo⟩ := hpq
    refine Runs.seq ?_
    refine Runs.seq ?_
    refine Runs.drawn (by kernel_rfl) [] [false, false, false, false, false, false, false, false, false, false, false, false, false, false, false, false] [false, false, false, false, false, false, false, false, false, false, false, false, false, false, false, false] (by decide +kernel) ?_
    refine RD.opv (v' := .d (.int _ _)) (opv_move rfl) rfl ?_
    refine RD.opv (v' := .d (.list (encs _))) (opv_move rfl) rfl ?_
    refine RD.opv (v' := .d (.int _ _)) (opv_len_terms rfl) rfl ?_
    refine RD.opv (v' := .d (.bool _)) (opv_bin rfl rfl rfl) rfl ?_
    refine RD.opc (opv_move rfl) (fun h2 => ?_) (fun h2 => ?_)
    · try simp only [Z.a, Z.b, Z.c, Z.d, Z.e, Z.f, Z.g, Z.h, Z.i, Z.j, Z.k, Z.l, Z.m] at h2
      have hp : p < (sortR (l.take i)).length := by omega
      refine RD.opgv (v' := .d (.list (encs _))) rfl (opv_move rfl) rfl ?_
      refine RD.opgv (v' := .d (.int _ _)) rfl (opv_move rfl) rfl ?_
      refine RD.opgv (v' := .d (.ptr _)) rfl (opv_index_terms rfl rfl (by omega)) rfl ?_
      refine RD.opgv (v' := .d (enc _)) rfl (opv_load_pterm rfl) rfl ?_
      refine RD.opgv (v' := .d (.list (encs _))) rfl (opv_move rfl) rfl ?_
      refine RD.opgv (v' := .d (.int _ _)) rfl (opv_move rfl) rfl ?_
      refine RD.opgv (v' := .d (.ptr _)) rfl (opv_index_terms rfl rfl (by omega)) rfl ?_
      refine RD.opgv (v' := .d (enc _)) rfl (opv_load_pterm rfl) rfl ?_
      refine RD.opgv (v' := .d (.int _ _)) rfl (opv_callF (rcomp_fn (sortR (l.take i))[p] l[i] (hRb _ (List.getElem_mem hp)) (hbk _ (List.getElem_mem hk))) rfl rfl rfl trivial) rfl ?_
      refine RD.opgv (v' := .d (.bool _)) rfl (opv_bin rfl rfl rfl) rfl ?_
      refine RD.opc (opv_pick rfl rfl) (fun h3 => ?_) (fun h3 => ?_)
      · try simp only [Z.a, Z.b, Z.c, Z.d, Z.e, Z.f, Z.g, Z.h, Z.i, Z.j, Z.k, Z.l, Z.m] at h3
        have hlt := h3
        refine RD.nil ?_
        refine thenQ_normal ?_
        refine Runs.condT rfl ?_
        refine Runs.skip ?_
        refine thenQ_normal ?_
        refine Runs.block ?_
        refine Runs.has [(0, .d (.list (encs _))), (2, .nil0), (3, .d (.list (encs _))), (4, .d (.int _ _)), (5, .d (.int _ _))] ⟨rfl, rfl, rfl, rfl, rfl, trivial⟩ ?_
        refine Runs.region ?_
        refine RO.opv (v' := .d (.int _ _)) (opv_move rfl) rfl ?_
        refine RO.opv (v' := .d (.int _ _)) (opv_bin rfl rfl rfl) rfl ?_
        refine RO.opv (v' := .d (.int _ _)) (opv_assign rfl) rfl ?_
        refine RO.nil ?_
        refine blockQ_normal ?_
        refine thenQ_normal ?_
        refine ⟨p + 1, 0, (by rw [hK]; exact Nat.le_of_ble_eq_true rfl), ⟨rfl, rfl, rfl, rfl, trivial⟩, ⟨?_, trivial⟩, rfl, ?_, ?_⟩
        · refine int_eq ?_; rw [wrap64 (by omega) (by omega)]; omega
        · refine ⟨by omega, fun j y hj hy => ?_⟩
          by_cases e : j = p
          · rw [e, List.getElem?_eq_getElem hp] at hy; cases hy; exact hlt
          · exact hlo j y (by omega) hy
        · omega
      · try simp only [Z.a, Z.b, Z.c, Z.d, Z.e, Z.f, Z.g, Z.h, Z.i, Z.j, Z.k, Z.l, Z.m] at h3
        have hge := h3
        refine RD.nil ?_
        refine thenQ_normal ?_
        refine Runs.condF rfl ?_
        refine Runs.exit ?_
        refine thenQ_exit ?_
        refine thenQ_exit ?_
        refine blockQ_here ?_
        refine thenQ_normal ?_
        refine Runs.has [(0, .d (.list (encs _))), (2, .nil0), (3, .d (.list (encs _))), (4, .d (.int _ _)), (5, .d (.int _ _))] ⟨rfl, rfl, rfl, rfl, rfl, trivial⟩ ?_
        refine Runs.seq ?_
        refine Runs.seq ?_
        refine Runs.drawn (by kernel_rfl) [] [false, false, false, false, false, false, false, false, false, false, false, false, false, false, false, false] [false, false, false, false, false, false, false, false, false, false, false, false, false, false, false, false] (by decide +kernel) ?_
        refine RD.opv (v' := .d (.int _ _)) (opv_move rfl) rfl ?_
        refine RD.opv (v' := .d (.list (encs _))) (opv_move rfl) rfl ?_
        refine RD.opv (v' := .d (.int _ _)) (opv_len_terms rfl) rfl ?_
        refine RD.opv (v' := .d (.bool _)) (opv_bin rfl rfl rfl) rfl ?_
        refine RD.opc (opv_move rfl) (fun h4 => ?_) (fun h4 => ?_)
        · try simp only [Z.a, Z.b, Z.c, Z.d, Z.e, Z.f, Z.g, Z.h, Z.i, Z.j, Z.k, Z.l, Z.m] at h4
          skip
          refine RD.opgv (v' := .d (.list (encs _))) rfl (opv_move rfl) rfl ?_
          refine RD.opgv (v' := .d (.int _ _)) rfl (opv_move rfl) rfl ?_
          refine RD.opgv (v' := .d (.ptr _)) rfl (opv_index_terms rfl rfl (by omega)) rfl ?_
          refine RD.opgv (v' := .d (enc _)) rfl (opv_load_pterm rfl) rfl ?_
          refine RD.opgv (v' := .d (.list (encs _))) rfl (opv_move rfl) rfl ?_
          refine RD.opgv (v' := .d (.int _ _)) rfl (opv_move rfl) rfl ?_
          refine RD.opgv (v' := .d (.ptr _)) rfl (opv_index_terms rfl rfl (by omega)) rfl ?_
          refine RD.opgv (v' := .d (enc _)) rfl (opv_load_pterm rfl) rfl ?_
          refine RD.opgv (v' := .d (.int _ _)) rfl (opv_callF (rcomp_fn (sortR (l.take i))[p] l[i] (hRb _ (List.getElem_mem hp)) (hbk _ (List.getElem_mem hk))) rfl rfl rfl trivial) rfl ?_
          refine RD.opgv (v' := .d (.bool _)) rfl (opv_bin rfl rfl rfl) rfl ?_
          refine RD.opc (opv_pick rfl rfl) (fun h5 => ?_) (fun h5 => ?_)
          · try simp only [Z.a, Z.b, Z.c, Z.d, Z.e, Z.f, Z.g, Z.h, Z.i, Z.j, Z.k, Z.l, Z.m] at h5
            have heq := h5
            refine RD.nil ?_
            refine thenQ_normal ?_
            refine Runs.condT rfl ?_
            refine Runs.exit ?_
            refine thenQ_exit ?_
            refine blockQ_here ?_
            refine thenQ_normal ?_
            refine Runs.has [(0, .d (.list (encs _))), (2, .nil0), (3, .d (.list (encs _))), (4, .d (.int _ _))] ⟨rfl, rfl, rfl, rfl, trivial⟩ ?_
            refine Runs.region ?_
            refine RO.opv (v' := .d (.int _ _)) (opv_move rfl) rfl ?_
            refine RO.opv (v' := .d (.int _ _)) (opv_bin rfl rfl rfl) rfl ?_
            refine RO.opv (v' := .d (.int _ _)) (opv_assign rfl) rfl ?_
            refine RO.nil ?_
            refine thenQ_normal ?_
            refine ⟨i + 1, 0, (by rw [hK]; exact Nat.le_of_ble_eq_true rfl), ⟨rfl, rfl, trivial⟩, ⟨?_, ?_, trivial⟩, rfl, ?_, ?_⟩
            · refine terms_eq ?_
              rw [sortR_next (List.getElem?_eq_getElem hk), insR_here hlo (List.getElem?_eq_getElem hp) heq]
            · refine int_eq ?_; rw [wrap64 (by omega) (by omega)]; omega
            · omega
            · omega
          · try simp only [Z.a, Z.b, Z.c, Z.d, Z.e, Z.f, Z.g, Z.h, Z.i, Z.j, Z.k, Z.l, Z.m] at h5
            have hne := h5
            refine RD.nil ?_
            refine thenQ_normal ?_
            refine Runs.condF rfl ?_
            refine Runs.skip ?_
            refine thenQ_normal ?_
            refine Runs.has [(0, .d (.list (encs _))), (2, .nil0), (3, .d (.list (encs _))), (4, .d (.int _ _)), (5, .d (.int _ _))] ⟨rfl, rfl, rfl, rfl, rfl, trivial⟩ ?_
            refine Runs.rseq ?_
            refine RO.opv (v' := .nil0) (opv_buildSlice0 rfl) rfl ?_
            refine RO.opv (v' := .d (.list (encs _))) (opv_move rfl) rfl ?_
            refine RO.opv (v' := .d (.int _ _)) (opv_move rfl) rfl ?_
            refine RO.opv (v' := .d (.list (encs _))) (opv_slice_terms (l := 0) (h := p) rfl rfl ⟨_, rfl⟩ (Nat.zero_le _) (by omega)) rfl ?_
            refine RO.opn (v' := .own 0 _) (O' := [_]) (opv_append_terms0 rfl rfl (by simp; omega)) rfl rfl ?_
            refine RO.opv (v' := .own 0 _) (opv_assign rfl) rfl ?_
            refine RO.nil ?_
            refine Runs.has [(0, .d (.list (encs _))), (2, .nil0), (3, .d (.list (encs _))), (4, .d (.int _ _)), (5, .d (.int _ _)), (6, .own 0 _)] ⟨rfl, rfl, rfl, rfl, rfl, rfl, trivial⟩ ?_
            refine Runs.rseq ?_
            refine RO.opv (v' := .own 0 _) (opv_move rfl) rfl ?_
            refine RO.opv (v' := .d (.list (encs _))) (opv_move rfl) rfl ?_
            refine RO.opv (v' := .d (.int _ _)) (opv_move rfl) rfl ?_
            refine RO.opv (v' := .d (.ptr _)) (opv_index_terms rfl rfl (by omega)) rfl ?_
            refine RO.opv (v' := .d (enc _)) (opv_load_pterm rfl) rfl ?_
            refine RO.opv (v' := .d (.list (encs _))) (opv_bs_term1 rfl ) rfl ?_
            refine RO.opn (v' := .own 0 _) (O' := [_]) (opv_append_terms rfl rfl rfl (by simp; omega)) rfl rfl ?_
            refine RO.opv (v' := .own 0 _) (opv_assign rfl) rfl ?_
            refine RO.nil ?_
            refine Runs.has [(0, .d (.list (encs _))), (2, .nil0), (3, .d (.list (encs _))), (4, .d (.int _ _)), (5, .d (.int _ _)), (6, .own 0 _)] ⟨rfl, rfl, rfl, rfl, rfl, rfl, trivial⟩ ?_
            refine Runs.region ?_
            refine RO.opv (v' := .own 0 _) (opv_move rfl) rfl ?_
            refine RO.opv (v' := .d (.list (encs _))) (opv_move rfl) rfl ?_
            refine RO.opv (v' := .d (.int _ _)) (opv_move rfl) rfl ?_
            refine RO.opv (v' := .d (.list (encs _))) (opv_slice_terms (l := p) (h := (sortR (l.take i)).length) rfl ⟨_, rfl⟩ rfl hpl (Nat.le_refl _)) rfl ?_
            refine RO.opn (v' := .own 0 _) (O' := [_]) (opv_append_terms rfl rfl rfl (by simp; omega)) rfl rfl ?_
            refine RO.opv (v' := .own 0 _) (opv_assign rfl) rfl ?_
            refine RO.nil ?_
            refine blockQ_normal ?_
            refine thenQ_normal ?_
            refine Runs.has [(0, .d (.list (encs _))), (2, .nil0), (3, .own 0 _), (4, .d (.int _ _))] ⟨rfl, rfl, rfl, rfl, trivial⟩ ?_
            refine Runs.shut 3 rfl rfl ?_
            refine Runs.region ?_
            refine RO.opv (v' := .d (.int _ _)) (opv_move rfl) rfl ?_
            refine RO.opv (v' := .d (.int _ _)) (opv_bin rfl rfl rfl) rfl ?_
            refine RO.opv (v' := .d (.int _ _)) (opv_assign rfl) rfl ?_
            refine RO.nil ?_
            refine thenQ_normal ?_
            refine ⟨i + 1, 0, (by rw [hK]; exact Nat.le_of_ble_eq_true rfl), ⟨rfl, rfl, trivial⟩, ⟨?_, ?_, trivial⟩, rfl, ?_, ?_⟩
            · refine terms_eq ?_
              rw [sortR_next (List.getElem?_eq_getElem hk), insR_new hpl hlo (fun y hy => by rw [List.getElem?_eq_getElem hp] at hy; cases hy; omega), List.drop_zero, List.take_length]
            · refine int_eq ?_; rw [wrap64 (by omega) (by omega)]; omega
            · omega
            · omega
        · try simp only [Z.a, Z.b, Z.c, Z.d, Z.e, Z.f, Z.g, Z.h, Z.i, Z.j, Z.k, Z.l, Z.m] at h4
          omega
    · try simp only [Z.a, Z.b, Z.c, Z.d, Z.e, Z.f, Z.g, Z.h, Z.i, Z.j, Z.k, Z.l, Z.m] at h2
      have hp : ¬ p < (sortR (l.take i)).length := by omega
      refine RD.off rfl ?_
      refine RD.off rfl ?_
      refine RD.off rfl ?_
      refine RD.off rfl ?_
      refine RD.off rfl ?_
      refine RD.off rfl ?_
      refine RD.off rfl ?_
      refine RD.off rfl ?_
      refine RD.off rfl ?_
      refine RD.off rfl ?_
      refine RD.opv (v' := .d (.bool false)) (opv_pick rfl rfl) rfl ?_
      refine RD.nil ?_
      refine thenQ_normal ?_
      refine Runs.condF rfl ?_
      refine Runs.exit ?_
      refine thenQ_exit ?_
      refine thenQ_exit ?_
      refine blockQ_here ?_
      refine thenQ_normal ?_
      refine Runs.has [(0, .d (.list (encs _))), (2, .nil0), (3, .d (.list (encs _))), (4, .d (.int _ _)), (5, .d (.int _ _))] ⟨rfl, rfl, rfl, rfl, rfl, trivial⟩ ?_
      refine Runs.seq ?_
      refine Runs.seq ?_
      refine Runs.drawn (by kernel_rfl) [] [false, false, false, false, false, false, false, false, false, false, false, false, false, false, false, false] [false, false, false, false, false, false, false, false, false, false, false, false, false, false, false, false] (by decide +kernel) ?_
      refine RD.opv (v' := .d (.int _ _)) (opv_move rfl) rfl ?_
      refine RD.opv (v' := .d (.list (encs _))) (opv_move rfl) rfl ?_
      refine RD.opv (v' := .d (.int _ _)) (opv_len_terms rfl) rfl ?_
      refine RD.opv (v' := .d (.bool _)) (opv_bin rfl rfl rfl) rfl ?_
      refine RD.opc (opv_move rfl) (fun h6 => ?_) (fun h6 => ?_)
      · try simp only [Z.a, Z.b, Z.c, Z.d, Z.e, Z.f, Z.g, Z.h, Z.i, Z.j, Z.k, Z.l, Z.m] at h6
        omega
      · try simp only [Z.a, Z.b, Z.c, Z.d, Z.e, Z.f, Z.g, Z.h, Z.i, Z.j, Z.k, Z.l, Z.m] at h6
        skip
        refine RD.off rfl ?_
        refine RD.off rfl ?_
        refine RD.off rfl ?_
        refine RD.off rfl ?_
        refine RD.off rfl ?_
        refine RD.off rfl ?_
        refine RD.off rfl ?_
        refine RD.off rfl ?_
        refine RD.off rfl ?_
        refine RD.off rfl ?_
        refine RD.opv (v' := .d (.bool false)) (opv_pick rfl rfl) rfl ?_
        refine RD.nil ?_
        refine thenQ_normal ?_
        refine Runs.condF rfl ?_
        refine Runs.skip ?_
        refine thenQ_normal ?_
        refine Runs.has [(0, .d (.list (encs _))), (2, .nil0), (3, .d (.list (encs _))), (4, .d (.int _ _)), (5, .d (.int _ _))] ⟨rfl, rfl, rfl, rfl, rfl, trivial⟩ ?_
        refine Runs.rseq ?_
        refine RO.opv (v' := .nil0) (opv_buildSlice0 rfl) rfl ?_
        refine RO.opv (v' := .d (.list (encs _))) (opv_move rfl) rfl ?_
        refine RO.opv (v' := .d (.int _ _)) (opv_move rfl) rfl ?_
        refine RO.opv (v' := .d (.list (encs _))) (opv_slice_terms (l := 0) (h := p) rfl rfl ⟨_, rfl⟩ (Nat.zero_le _) (by omega)) rfl ?_
        refine RO.opn (v' := .own 0 _) (O' := [_]) (opv_append_terms0 rfl rfl (by simp; omega)) rfl rfl ?_
        refine RO.opv (v' := .own 0 _) (opv_assign rfl) rfl ?_
        refine RO.nil ?_
        refine Runs.has [(0, .d (.list (encs _))), (2, .nil0), (3, .d (.list (encs _))), (4, .d (.int _ _)), (5, .d (.int _ _)), (6, .own 0 _)] ⟨rfl, rfl, rfl, rfl, rfl, rfl, trivial⟩ ?_
        refine Runs.rseq ?_
        refine RO.opv (v' := .own 0 _) (opv_move rfl) rfl ?_
        refine RO.opv (v' := .d (.list (encs _))) (opv_move rfl) rfl ?_
        refine RO.opv (v' := .d (.int _ _)) (opv_move rfl) rfl ?_
        refine RO.opv (v' := .d (.ptr _)) (opv_index_terms rfl rfl (by omega)) rfl ?_
        refine RO.opv (v' := .d (enc _)) (opv_load_pterm rfl) rfl ?_
        refine RO.opv (v' := .d (.list (encs _))) (opv_bs_term1 rfl ) rfl ?_
        refine RO.opn (v' := .own 0 _) (O' := [_]) (opv_append_terms rfl rfl rfl (by simp; omega)) rfl rfl ?_
        refine RO.opv (v' := .own 0 _) (opv_assign rfl) rfl ?_
        refine RO.nil ?_
        refine Runs.has [(0, .d (.list (encs _))), (2, .nil0), (3, .d (.list (encs _))), (4, .d (.int _ _)), (5, .d (.int _ _)), (6, .own 0 _)] ⟨rfl, rfl, rfl, rfl, rfl, rfl, trivial⟩ ?_
        refine Runs.region ?_
        refine RO.opv (v' := .own 0 _) (opv_move rfl) rfl ?_
        refine RO.opv (v' := .d (.list (encs _))) (opv_move rfl) rfl ?_
        refine RO.opv (v' := .d (.int _ _)) (opv_move rfl) rfl ?_
        refine RO.opv (v' := .d (.list (encs _))) (opv_slice_terms (l := p) (h := (sortR (l.take i)).length) rfl ⟨_, rfl⟩ rfl hpl (Nat.le_refl _)) rfl ?_
        refine RO.opn (v' := .own 0 _) (O' := [_]) (opv_append_terms rfl rfl rfl (by simp; omega)) rfl rfl ?_
        refine RO.opv (v' := .own 0 _) (opv_assign rfl) rfl ?_
        refine RO.nil ?_
        refine blockQ_normal ?_
        refine thenQ_normal ?_
        refine Runs.has [(0, .d (.list (encs _))), (2, .nil0), (3, .own 0 _), (4, .d (.int _ _))] ⟨rfl, rfl, rfl, rfl, trivial⟩ ?_
        refine Runs.shut 3 rfl rfl ?_
        refine Runs.region ?_
        refine RO.opv (v' := .d (.int _ _)) (opv_move rfl) rfl ?_
        refine RO.opv (v' := .d (.int _ _)) (opv_bin rfl rfl rfl) rfl ?_
        refine RO.opv (v' := .d (.int _ _)) (opv_assign rfl) rfl ?_
        refine RO.nil ?_
        refine thenQ_normal ?_
        refine ⟨i + 1, 0, (by rw [hK]; exact Nat.le_of_ble_eq_true rfl), ⟨rfl, rfl, trivial⟩, ⟨?_, ?_, trivial⟩, rfl, ?_, ?_⟩
        · refine terms_eq ?_
          rw [sortR_next (List.getElem?_eq_getElem hk), insR_new hpl hlo (fun y hy => absurd (List.getElem?_eq_some_iff.1 hy).1 hp), List.drop_zero, List.take_length]
        · refine int_eq ?_; rw [wrap64 (by omega) (by omega)]; omega
        · omega
        · omega
  · try simp only [Z.a, Z.b, Z.c, Z.d, Z.e, Z.f, Z.g, Z.h, Z.i, Z.j, Z.k, Z.l, Z.m] at h1
    have hk : i = l.length := by omega
    refine RO.nil ?_
    refine Runs.condF rfl ?_
    refine Runs.exit ?_
    refine thenQ_exit ?_
    refine thenQ_exit ?_
    refine blockQ_here ?_
    refine thenQ_normal ?_
    refine Runs.has [(2, .nil0), (3, .d (.list (encs _)))] ⟨rfl, rfl, trivial⟩ ?_
    refine Runs.rseq ?_
    refine RO.opv (v' := .d (.list (encs _))) (opv_move rfl) rfl ?_
    refine RO.opv (v' := .d (.list (encs _))) (opv_assign rfl) rfl ?_
    refine RO.nil ?_
    refine Runs.ret ?_
    refine EndQ.tmp (.inr rfl) rfl rfl 0 (by exact Nat.le_refl _) (by exact Nat.zero_le _) trivial ⟨?_, rfl⟩
    refine terms_eq ?_; rw [hk, List.take_length]
end Go.Proofs.Ythpiggjclhnkcaa.AM
