import Derived.Test.YtohncglpjiplaaaDg
import Derived.Test.YtohncglpjiplaaaD3
import Derived.Test.YtohncglpjiplaaaBg
namespace Go.Proofs.Ytohncglpjiplaaa.AM
open Go
set_option linter.unusedVariables false
set_option linter.unusedSimpArgs false
set_option maxRecDepth 100000
theorem rplace_fn (l : List Int) (n : Int) (hl : l.length ≤ 2 ^ 30) : Fn Try.prog 92 [.d (.list (ints l)), .d (.int .i64 n)] [] (.d (.int .i64 (placeOf l n 0))) [] := by
  refine Does.run Try.func92 rfl Try.ntmps92 rfl fun K hK => ?_
  refine Runs.rseq ?_
  refine RO.opv (v' := .d (.int _ _)) (opv_assign rfl) rfl ?_
  refine RO.nil ?_
  refine Runs.seq ?_
  refine Runs.rseq ?_
  refine RO.opv (v' := .d (.int _ _)) (opv_assign rfl) rfl ?_
  refine RO.nil ?_
  refine Runs.block ?_
  refine Runs.loopC (X := Nat) (fun i => i ≤ l.length ∧ ∀ (j : Nat) (hj : j < l.length), j < i → ¬ l[j] = n) (fun i => l.length - i) [(0, .d (.list (ints _))), (1, .d (.int _ _))] (fun i => [(5, .d (.int .i64 (i : Nat)))]) [] (fun i => []) (0) ⟨rfl, rfl, trivial⟩ ⟨rfl, trivial⟩ rfl ⟨Nat.zero_le _, fun j _ h => absurd h (Nat.not_lt_zero _)⟩ fun i hi => ?_
  refine Runs.seq ?_
  refine Runs.rseq ?_
  refine RO.opv (v' := .d (.int _ _)) (opv_move rfl) rfl ?_
  refine RO.opv (v' := .d (.list (ints _))) (opv_move rfl) rfl ?_
  refine RO.opv (v' := .d (.int _ _)) (opv_len_ints rfl) rfl ?_
  refine RO.opc (opv_bin rfl rfl rfl) (fun h1 => ?_) (fun h1 => ?_)
  · try simp only [Z.a, Z.b, Z.c, Z.d, Z.e, Z.f, Z.g, Z.h, Z.i, Z.j, Z.k, Z.l, Z.m] at h1
    have hk : i < l.length := by omega
    refine RO.nil ?_
    refine Runs.condT rfl ?_
    refine Runs.skip ?_
    refine thenQ_normal ?_
    refine Runs.has [(0, .d (.list (ints _))), (1, .d (.int _ _)), (5, .d (.int _ _))] ⟨rfl, rfl, rfl, trivial⟩ ?_
    refine Runs.seq ?_
    refine Runs.block ?_
    refine Runs.rseq ?_
    refine RO.opv (v' := .d (.list (ints _))) (opv_move rfl) rfl ?_
    refine RO.opv (v' := .d (.int _ _)) (opv_move rfl) rfl ?_
    refine RO.opv (v' := .d (.ptr _)) (opv_index_ints rfl rfl hk) rfl ?_
    refine RO.opv (v' := .d (.int _ _)) (opv_load_ptr rfl rfl) rfl ?_
    refine RO.opv (v' := .d (.int _ _)) (opv_move rfl) rfl ?_
    refine RO.opc (opv_bin rfl rfl rfl) (fun h2 => ?_) (fun h2 => ?_)
    · try simp only [Z.a, Z.b, Z.c, Z.d, Z.e, Z.f, Z.g, Z.h, Z.i, Z.j, Z.k, Z.l, Z.m] at h2
      have hq := h2
      refine RO.nil ?_
      refine Runs.condT rfl ?_
      refine Runs.has [(0, .d (.list (ints _))), (1, .d (.int _ _)), (5, .d (.int _ _))] ⟨rfl, rfl, rfl, trivial⟩ ?_
      refine Runs.rseq ?_
      refine RO.opv (v' := .d (.int _ _)) (opv_move rfl) rfl ?_
      refine RO.opv (v' := .d (.int _ _)) (opv_assign rfl) rfl ?_
      refine RO.nil ?_
      refine Runs.ret ?_
      refine blockQ_ret ?_
      refine thenQ_ret ?_
      refine thenQ_ret ?_
      refine blockQ_ret ?_
      refine thenQ_ret ?_
      refine EndQ.tmp (.inr rfl) rfl rfl 0 (by exact Nat.le_refl _) (by exact Nat.zero_le _) trivial ⟨?_, rfl⟩
      refine int_eq ?_; rw [place_hit l n 0 i hk hq (fun j hj h => hi.2 j hj h)]; congr 1; omega
    · try simp only [Z.a, Z.b, Z.c, Z.d, Z.e, Z.f, Z.g, Z.h, Z.i, Z.j, Z.k, Z.l, Z.m] at h2
      have hq := h2
      refine RO.nil ?_
      refine Runs.condF rfl ?_
      refine Runs.skip ?_
      refine blockQ_normal ?_
      refine thenQ_normal ?_
      refine Runs.has [(0, .d (.list (ints _))), (1, .d (.int _ _)), (5, .d (.int _ _))] ⟨rfl, rfl, rfl, trivial⟩ ?_
      refine Runs.region ?_
      refine RO.opv (v' := .d (.int _ _)) (opv_move rfl) rfl ?_
      refine RO.opv (v' := .d (.int _ _)) (opv_bin rfl rfl rfl) rfl ?_
      refine RO.opv (v' := .d (.int _ _)) (opv_assign rfl) rfl ?_
      refine RO.nil ?_
      refine thenQ_normal ?_
      refine ⟨i + 1, 0, (by rw [hK]; exact Nat.le_of_ble_eq_true rfl), ⟨rfl, rfl, trivial⟩, ⟨?_, trivial⟩, rfl, ?_, ?_⟩
      · refine int_eq ?_; rw [wrap64 (by omega) (by omega)]; omega
      · refine ⟨by omega, fun j hj h => ?_⟩
        rcases Nat.lt_succ_iff_lt_or_eq.1 h with h' | h'
        · exact hi.2 j hj h'
        · subst h'; exact hq
      · omega
  · try simp only [Z.a, Z.b, Z.c, Z.d, Z.e, Z.f, Z.g, Z.h, Z.i, Z.j, Z.k, Z.l, Z.m] at h1
    have hk : i = l.length := by omega
    refine RO.nil ?_
    refine Runs.condF rfl ?_
    refine Runs.exit ?_
    refine thenQ_exit ?_
    refine thenQ_exit ?_
    refine blockQ_here ?_
    refine thenQ_normal ?_
    refine Runs.has [] trivial ?_
    refine Runs.rseq ?_
    refine RO.opv (v' := .d (.int _ _)) (opv_assign rfl) rfl ?_
    refine RO.nil ?_
    refine Runs.ret ?_
    refine EndQ.tmp (.inr rfl) rfl rfl 0 (by exact Nat.le_refl _) (by exact Nat.zero_le _) trivial ⟨?_, rfl⟩
    refine int_eq ?_; exact (place_miss l n 0 fun j hj => hi.2 j hj (by omega)).symm
theorem rput_aux (l : List Int) (hl : l.length ≤ 2 ^ 30) : ∀ (m : Nat) (t : Term), t.size ≤ m → t.bulk ≤ 2 ^ 30 → Fn Try.prog 90 [.d (enc t), .d (.list (ints l))] [] (.d (enc (t.put fun n => placeOf l n 0))) [] := by
  intro m
  induction m with
  | zero => intro t h; have := t.size_kids; omega
  | succ m ih =>
  intro t hm hb
  have hS := t.size_kids
  have hU := t.bulk_kids
  have hL := bulks_len t.kids
  refine Does.run Try.func90 rfl Try.ntmps90 rfl fun K hK => ?_
  refine Runs.rseq ?_
  refine RO.opn (v' := .ref 0 0) (O' := [_]) (opv_box_term rfl) rfl rfl ?_
  refine RO.opn (v' := .ref 1 0) (O' := [_, _]) (opv_alloc) rfl rfl ?_
  refine RO.nil ?_
  refine Runs.has [(1, .d (.list (ints _))), (2, .ref 0 0), (4, .ref 1 0)] ⟨rfl, rfl, rfl, trivial⟩ ?_
  refine Runs.newbuf 47 4 ?_
  refine Runs.rseq ?_
  refine RO.opv (v' := .ref 0 0) (opv_field_ref rfl rfl) rfl ?_
  refine RO.opv (v' := .d (.int _ _)) (opv_load_ref rfl rfl rfl) rfl ?_
  refine RO.opv (v' := .ref 0 1) (opv_field_ref rfl rfl) rfl ?_
  refine RO.opv (v' := .d (.int _ _)) (opv_load_ref rfl rfl rfl) rfl ?_
  refine RO.opv (v' := .ref 0 2) (opv_field_ref rfl rfl) rfl ?_
  refine RO.opv (v' := .d (.str _)) (opv_load_ref rfl rfl rfl) rfl ?_
  refine RO.opv (v' := .agg _) (opv_build_own 2 3 rfl rfl rfl) rfl ?_
  refine RO.opn (v' := .ref 3 0) (O' := [_, _, _, _]) (opv_alloc) rfl rfl ?_
  refine RO.op0n (O' := [_, _, _, _]) (opv_store_ref rfl rfl rfl rfl rfl (Nat.le_of_ble_eq_true rfl) rfl) rfl ?_
  refine RO.nil ?_
  refine Runs.has [(1, .d (.list (ints _))), (2, .ref 0 0), (4, .ref 1 0), (5, .ref 3 0)] ⟨rfl, rfl, rfl, rfl, trivial⟩ ?_
  refine Runs.seq ?_
  refine Runs.rseq ?_
  refine RO.opv (v' := .ref 0 0) (opv_field_ref rfl rfl) rfl ?_
  refine RO.opv (v' := .d (.int _ _)) (opv_load_ref rfl rfl rfl) rfl ?_
  refine RO.opc (opv_bin rfl rfl rfl) (fun h1 => ?_) (fun h1 => ?_)
  · try simp only [Z.a, Z.b, Z.c, Z.d, Z.e, Z.f, Z.g, Z.h, Z.i, Z.j, Z.k, Z.l, Z.m] at h1
    have hv1 : t.kind = 1 := h1
    refine RO.nil ?_
    refine Runs.condT rfl ?_
    refine Runs.has [(1, .d (.list (ints _))), (2, .ref 0 0), (4, .ref 1 0), (5, .ref 3 0)] ⟨rfl, rfl, rfl, rfl, trivial⟩ ?_
    refine Runs.region ?_
    refine RO.opv (v' := .d (.list (ints _))) (opv_move rfl) rfl ?_
    refine RO.opv (v' := .ref 0 1) (opv_field_ref rfl rfl) rfl ?_
    refine RO.opv (v' := .d (.int _ _)) (opv_load_ref rfl rfl rfl) rfl ?_
    refine RO.opv (v' := .d (.int _ _)) (opv_callF (rplace_fn l t.num hl) rfl rfl rfl trivial) rfl ?_
    refine RO.opv (v' := .ref 3 1) (opv_field_ref rfl rfl) rfl ?_
    refine RO.op0n (O' := [_, _, _, _]) (opv_store_ref rfl rfl rfl rfl rfl (Nat.le_of_ble_eq_true rfl) rfl) rfl ?_
    refine RO.nil ?_
    refine thenQ_normal ?_
    refine Runs.has [(1, .d (.list (ints _))), (2, .ref 0 0), (4, .ref 1 0), (5, .ref 3 0)] ⟨rfl, rfl, rfl, rfl, trivial⟩ ?_
    refine Runs.seq ?_
    refine Runs.rseq ?_
    refine RO.opv (v' := .d (.int _ _)) (opv_assign rfl) rfl ?_
    refine RO.nil ?_
    refine Runs.block ?_
    refine Runs.loopC (X := Nat) (fun i => i ≤ t.kids.length) (fun i => t.kids.length - i) [(1, .d (.list (ints _))), (2, .ref 0 0), (4, .ref 1 0), (5, .ref 3 0)] (fun i => [(6, .d (.int .i64 (i : Nat)))]) [_, _] (fun i => [.buf 47 4 (encs (puts (fun n => placeOf l n 0) (t.kids.take i))) i, .cells [.d (.int .i64 t.kind), .d (.int .i64 (placeOf l t.num 0)), .d (.str t.name), .own 2 i]]) (0) ⟨rfl, rfl, rfl, rfl, trivial⟩ ⟨rfl, trivial⟩ rfl (by omega) fun i hi => ?_
    refine Runs.seq ?_
    refine Runs.rseq ?_
    refine RO.opv (v' := .d (.int _ _)) (opv_move rfl) rfl ?_
    refine RO.opv (v' := .ref 0 3) (opv_field_ref rfl rfl) rfl ?_
    refine RO.opv (v' := .d (.list (encs _))) (opv_load_ref rfl rfl rfl) rfl ?_
    refine RO.opv (v' := .d (.int _ _)) (opv_len_terms rfl) rfl ?_
    refine RO.opc (opv_bin rfl rfl rfl) (fun h2 => ?_) (fun h2 => ?_)
    · try simp only [Z.a, Z.b, Z.c, Z.d, Z.e, Z.f, Z.g, Z.h, Z.i, Z.j, Z.k, Z.l, Z.m] at h2
      have hk : i < t.kids.length := by omega
      refine RO.nil ?_
      refine Runs.condT rfl ?_
      refine Runs.skip ?_
      refine thenQ_normal ?_
      refine Runs.has [(1, .d (.list (ints _))), (2, .ref 0 0), (4, .ref 1 0), (5, .ref 3 0), (6, .d (.int _ _))] ⟨rfl, rfl, rfl, rfl, rfl, trivial⟩ ?_
      refine Runs.seq ?_
      refine Runs.block ?_
      refine Runs.drawn (by kernel_rfl) [] [false, false, false, false, false, false, false, false, false, false, false, false, false] [false, false, false, false, false, false, false, false, false, false, true, false, true] (by decide +kernel) ?_
      refine RD.opv (v' := .ref 3 3) (opv_field_ref rfl rfl) rfl ?_
      refine RD.opv (v' := .own 2 _) (opv_load_ref rfl rfl rfl) rfl ?_
      refine RD.opv (v' := .ref 0 3) (opv_field_ref rfl rfl) rfl ?_
      refine RD.opv (v' := .d (.list (encs _))) (opv_load_ref rfl rfl rfl) rfl ?_
      refine RD.opv (v' := .d (.int _ _)) (opv_move rfl) rfl ?_
      refine RD.opv (v' := .d (.ptr _)) (opv_index_terms rfl rfl (by omega)) rfl ?_
      refine RD.opv (v' := .d (enc _)) (opv_load_pterm rfl) rfl ?_
      refine RD.opv (v' := .d (.list (ints _))) (opv_move rfl) rfl ?_
      refine RD.opv (v' := .d (enc _)) (opv_callF (ih t.kids[i] (by have := sizes_mem (List.getElem_mem (l := t.kids) (n := i) hk); omega) (by have := bulks_mem (List.getElem_mem (l := t.kids) (n := i) hk); omega)) rfl rfl rfl trivial) rfl ?_
      refine RD.opv (v' := .d (.list (encs _))) (opv_bs_term1 rfl ) rfl ?_
      refine RD.opn (v' := .own 2 _) (O' := [_, _, _, _]) (opv_append_terms rfl rfl rfl (by rw [puts_len]; simp; omega)) rfl rfl trivial ?_
      refine RD.opv (v' := .ref 3 3) (opv_field_ref rfl rfl) rfl ?_
      refine RD.op0n (O' := [_, _, _, _]) (opv_store_ref rfl rfl rfl rfl rfl (Nat.le_of_ble_eq_true rfl) rfl) rfl trivial ?_
      refine RD.nil ?_
      refine blockQ_normal ?_
      refine thenQ_normal ?_
      refine Runs.has [(1, .d (.list (ints _))), (2, .ref 0 0), (4, .ref 1 0), (5, .ref 3 0), (6, .d (.int _ _))] ⟨rfl, rfl, rfl, rfl, rfl, trivial⟩ ?_
      refine Runs.region ?_
      refine RO.opv (v' := .d (.int _ _)) (opv_move rfl) rfl ?_
      refine RO.opv (v' := .d (.int _ _)) (opv_bin rfl rfl rfl) rfl ?_
      refine RO.opv (v' := .d (.int _ _)) (opv_assign rfl) rfl ?_
      refine RO.nil ?_
      refine thenQ_normal ?_
      refine ⟨i+1, 4, (by rw [hK]; exact Nat.le_of_ble_eq_true rfl), ⟨rfl, rfl, rfl, rfl, trivial⟩, ⟨?_, trivial⟩, ?_, ?_, ?_⟩
      · refine int_eq ?_; rw [wrap64 (by omega) (by omega)]; omega
      · rw [puts_take hk]; rfl
      · omega
      · omega
    · try simp only [Z.a, Z.b, Z.c, Z.d, Z.e, Z.f, Z.g, Z.h, Z.i, Z.j, Z.k, Z.l, Z.m] at h2
      have hk : i = t.kids.length := by omega
      refine RO.nil ?_
      refine Runs.condF rfl ?_
      refine Runs.exit ?_
      refine thenQ_exit ?_
      refine thenQ_exit ?_
      refine blockQ_here ?_
      refine thenQ_normal ?_
      refine Runs.has [(4, .ref 1 0), (5, .ref 3 0)] ⟨rfl, rfl, trivial⟩ ?_
      refine Runs.shutC 3 3 rfl rfl rfl ?_
      refine Runs.rseq ?_
      refine RO.opv (v' := .d (enc _)) (opv_load_node rfl rfl rfl rfl) rfl ?_
      refine RO.op0n (O' := [_, _, _, _]) (opv_store_term rfl rfl rfl (Nat.le_of_ble_eq_true rfl)) rfl ?_
      refine RO.nil ?_
      refine Runs.ret ?_
      refine EndQ.cell_term (.inr rfl) rfl rfl rfl rfl 0 (by exact Nat.le_refl _) (by exact Nat.zero_le _) ⟨?_, rfl⟩
      refine term_eq ?_; rw [put_eq, if_pos hv1, hk, List.take_length]
  · try simp only [Z.a, Z.b, Z.c, Z.d, Z.e, Z.f, Z.g, Z.h, Z.i, Z.j, Z.k, Z.l, Z.m] at h1
    have hv1 : ¬ t.kind = 1 := h1
    refine RO.nil ?_
    refine Runs.condF rfl ?_
    refine Runs.skip ?_
    refine thenQ_normal ?_
    refine Runs.has [(1, .d (.list (ints _))), (2, .ref 0 0), (4, .ref 1 0), (5, .ref 3 0)] ⟨rfl, rfl, rfl, rfl, trivial⟩ ?_
    refine Runs.seq ?_
    refine Runs.rseq ?_
    refine RO.opv (v' := .d (.int _ _)) (opv_assign rfl) rfl ?_
    refine RO.nil ?_
    refine Runs.block ?_
    refine Runs.loopC (X := Nat) (fun i => i ≤ t.kids.length) (fun i => t.kids.length - i) [(1, .d (.list (ints _))), (2, .ref 0 0), (4, .ref 1 0), (5, .ref 3 0)] (fun i => [(6, .d (.int .i64 (i : Nat)))]) [_, _] (fun i => [.buf 47 4 (encs (puts (fun n => placeOf l n 0) (t.kids.take i))) i, .cells [.d (.int .i64 t.kind), .d (.int .i64 t.num), .d (.str t.name), .own 2 i]]) (0) ⟨rfl, rfl, rfl, rfl, trivial⟩ ⟨rfl, trivial⟩ rfl (by omega) fun i hi => ?_
    refine Runs.seq ?_
    refine Runs.rseq ?_
    refine RO.opv (v' := .d (.int _ _)) (opv_move rfl) rfl ?_
    refine RO.opv (v' := .ref 0 3) (opv_field_ref rfl rfl) rfl ?_
    refine RO.opv (v' := .d (.list (encs _))) (opv_load_ref rfl rfl rfl) rfl ?_
    refine RO.opv (v' := .d (.int _ _)) (opv_len_terms rfl) rfl ?_
    refine RO.opc (opv_bin rfl rfl rfl) (fun h3 => ?_) (fun h3 => ?_)
    · try simp only [Z.a, Z.b, Z.c, Z.d, Z.e, Z.f, Z.g, Z.h, Z.i, Z.j, Z.k, Z.l, Z.m] at h3
      have hk : i < t.kids.length := by omega
      refine RO.nil ?_
      refine Runs.condT rfl ?_
      refine Runs.skip ?_
      refine thenQ_normal ?_
      refine Runs.has [(1, .d (.list (ints _))), (2, .ref 0 0), (4, .ref 1 0), (5, .ref 3 0), (6, .d (.int _ _))] ⟨rfl, rfl, rfl, rfl, rfl, trivial⟩ ?_
      refine Runs.seq ?_
      refine Runs.block ?_
      refine Runs.drawn (by kernel_rfl) [] [false, false, false, false, false, false, false, false, false, false, false, false, false] [false, false, false, false, false, false, false, false, false, false, true, false, true] (by decide +kernel) ?_
      refine RD.opv (v' := .ref 3 3) (opv_field_ref rfl rfl) rfl ?_
      refine RD.opv (v' := .own 2 _) (opv_load_ref rfl rfl rfl) rfl ?_
      refine RD.opv (v' := .ref 0 3) (opv_field_ref rfl rfl) rfl ?_
      refine RD.opv (v' := .d (.list (encs _))) (opv_load_ref rfl rfl rfl) rfl ?_
      refine RD.opv (v' := .d (.int _ _)) (opv_move rfl) rfl ?_
      refine RD.opv (v' := .d (.ptr _)) (opv_index_terms rfl rfl (by omega)) rfl ?_
      refine RD.opv (v' := .d (enc _)) (opv_load_pterm rfl) rfl ?_
      refine RD.opv (v' := .d (.list (ints _))) (opv_move rfl) rfl ?_
      refine RD.opv (v' := .d (enc _)) (opv_callF (ih t.kids[i] (by have := sizes_mem (List.getElem_mem (l := t.kids) (n := i) hk); omega) (by have := bulks_mem (List.getElem_mem (l := t.kids) (n := i) hk); omega)) rfl rfl rfl trivial) rfl ?_
      refine RD.opv (v' := .d (.list (encs _))) (opv_bs_term1 rfl ) rfl ?_
      refine RD.opn (v' := .own 2 _) (O' := [_, _, _, _]) (opv_append_terms rfl rfl rfl (by rw [puts_len]; simp; omega)) rfl rfl trivial ?_
      refine RD.opv (v' := .ref 3 3) (opv_field_ref rfl rfl) rfl ?_
      refine RD.op0n (O' := [_, _, _, _]) (opv_store_ref rfl rfl rfl rfl rfl (Nat.le_of_ble_eq_true rfl) rfl) rfl trivial ?_
      refine RD.nil ?_
      refine blockQ_normal ?_
      refine thenQ_normal ?_
      refine Runs.has [(1, .d (.list (ints _))), (2, .ref 0 0), (4, .ref 1 0), (5, .ref 3 0), (6, .d (.int _ _))] ⟨rfl, rfl, rfl, rfl, rfl, trivial⟩ ?_
      refine Runs.region ?_
      refine RO.opv (v' := .d (.int _ _)) (opv_move rfl) rfl ?_
      refine RO.opv (v' := .d (.int _ _)) (opv_bin rfl rfl rfl) rfl ?_
      refine RO.opv (v' := .d (.int _ _)) (opv_assign rfl) rfl ?_
      refine RO.nil ?_
      refine thenQ_normal ?_
      refine ⟨i+1, 4, (by rw [hK]; exact Nat.le_of_ble_eq_true rfl), ⟨rfl, rfl, rfl, rfl, trivial⟩, ⟨?_, trivial⟩, ?_, ?_, ?_⟩
      · refine int_eq ?_; rw [wrap64 (by omega) (by omega)]; omega
      · rw [puts_take hk]; rfl
      · omega
      · omega
    · try simp only [Z.a, Z.b, Z.c, Z.d, Z.e, Z.f, Z.g, Z.h, Z.i, Z.j, Z.k, Z.l, Z.m] at h3
      have hk : i = t.kids.length := by omega
      refine RO.nil ?_
      refine Runs.condF rfl ?_
      refine Runs.exit ?_
      refine thenQ_exit ?_
      refine thenQ_exit ?_
      refine blockQ_here ?_
      refine thenQ_normal ?_
      refine Runs.has [(4, .ref 1 0), (5, .ref 3 0)] ⟨rfl, rfl, trivial⟩ ?_
      refine Runs.shutC 3 3 rfl rfl rfl ?_
      refine Runs.rseq ?_
      refine RO.opv (v' := .d (enc _)) (opv_load_node rfl rfl rfl rfl) rfl ?_
      refine RO.op0n (O' := [_, _, _, _]) (opv_store_term rfl rfl rfl (Nat.le_of_ble_eq_true rfl)) rfl ?_
      refine RO.nil ?_
      refine Runs.ret ?_
      refine EndQ.cell_term (.inr rfl) rfl rfl rfl rfl 0 (by exact Nat.le_refl _) (by exact Nat.zero_le _) ⟨?_, rfl⟩
      refine term_eq ?_; rw [put_eq, if_neg hv1, hk, List.take_length]
theorem rput_fn (l : List Int) (hl : l.length ≤ 2 ^ 30) (t : Term) (hb : t.bulk ≤ 2 ^ 30) : Fn Try.prog 90 [.d (enc t), .d (.list (ints l))] [] (.d (enc (t.put fun n => placeOf l n 0))) [] := rput_aux l hl t.size t (Nat.le_refl _) hb
theorem rnorm_fn (t : Term) (hb : t.bulk ≤ 2 ^ 28) : Fn Try.prog 85 [.d (enc t)] [] (.tup [.d (enc t.norm), .d (.int .i64 (t.vars.length : Nat))]) [] := by
  have hvl : t.vars.length ≤ 2 ^ 30 := by have := vars_size t; have := t.size_bulk; omega
  refine Does.run Try.func85 rfl Try.ntmps85 rfl fun K hK => ?_
  refine Runs.rseq ?_
  refine RO.opn (v' := .ref 0 0) (O' := [_]) (opv_box_term rfl) rfl rfl ?_
  refine RO.opn (v' := .ref 1 0) (O' := [_, _]) (opv_alloc) rfl rfl ?_
  refine RO.opv (v' := .d (.int _ _)) (opv_assign rfl) rfl ?_
  refine RO.nil ?_
  refine Runs.has [(1, .ref 0 0), (2, .ref 1 0), (3, .d (.int _ _))] ⟨rfl, rfl, rfl, trivial⟩ ?_
  refine Runs.rseq ?_
  refine RO.opv (v' := .d (enc _)) (opv_load_term rfl rfl rfl) rfl ?_
  refine RO.opv (v' := .d (.list (ints _))) (opv_callF (rvars_fn t (by omega)) rfl rfl rfl trivial) rfl ?_
  refine RO.opv (v' := .d (.list (ints _))) (opv_assign rfl) rfl ?_
  refine RO.nil ?_
  refine Runs.has [(1, .ref 0 0), (2, .ref 1 0), (3, .d (.int _ _)), (4, .d (.list (ints _)))] ⟨rfl, rfl, rfl, rfl, trivial⟩ ?_
  refine Runs.rseq ?_
  refine RO.opv (v' := .d (enc _)) (opv_load_term rfl rfl rfl) rfl ?_
  refine RO.opv (v' := .d (.list (ints _))) (opv_move rfl) rfl ?_
  refine RO.opv (v' := .d (enc _)) (opv_callF (rput_fn t.vars hvl t (by omega)) rfl rfl rfl trivial) rfl ?_
  refine RO.opv (v' := .d (.list (ints _))) (opv_move rfl) rfl ?_
  refine RO.opv (v' := .d (.int _ _)) (opv_len_ints rfl) rfl ?_
  refine RO.op0n (O' := [_, _]) (opv_store_term rfl rfl rfl (Nat.le_of_ble_eq_true rfl)) rfl ?_
  refine RO.opv (v' := .d (.int _ _)) (opv_assign rfl) rfl ?_
  refine RO.nil ?_
  refine Runs.ret ?_
  refine EndQ.ct (v := .d (enc _)) (v' := .d (.int _ _)) (.inr rfl) rfl rfl rfl (by exact take_term _) rfl 0 (by exact Nat.le_refl _) (by exact Nat.zero_le _) trivial trivial ⟨?_, rfl⟩
  rfl
theorem rin_fn (s : ByteArray) (l : List ByteArray) (hl : l.length ≤ 2 ^ 30) : Fn Try.prog 88 [.d (.str s), .d (.list (strsD l))] [] (.d (.bool (inL s l))) [] := by
  refine Does.run Try.func88 rfl Try.ntmps88 rfl fun K hK => ?_
  refine Runs.rseq ?_
  refine RO.opv (v' := .d (.bool false)) (opv_assign rfl) rfl ?_
  refine RO.nil ?_
  refine Runs.seq ?_
  refine Runs.rseq ?_
  refine RO.opv (v' := .d (.int _ _)) (opv_assign rfl) rfl ?_
  refine RO.nil ?_
  refine Runs.block ?_
  refine Runs.loopC (X := Nat) (fun i => i ≤ l.length ∧ ∀ (j : Nat) (hj : j < l.length), j < i → (l[j].toList == s.toList) = false) (fun i => l.length - i) [(0, .d (.str _)), (1, .d (.list _))] (fun i => [(5, .d (.int .i64 (i : Nat)))]) [] (fun i => []) (0) ⟨rfl, rfl, trivial⟩ ⟨rfl, trivial⟩ rfl ⟨Nat.zero_le _, fun j _ h => absurd h (Nat.not_lt_zero _)⟩ fun i hi => ?_
  refine Runs.seq ?_
  refine Runs.rseq ?_
  refine RO.opv (v' := .d (.int _ _)) (opv_move rfl) rfl ?_
  refine RO.opv (v' := .d (.list _)) (opv_move rfl) rfl ?_
  refine RO.opv (v' := .d (.int _ _)) (opv_len_strs rfl) rfl ?_
  refine RO.opc (opv_bin rfl rfl rfl) (fun h1 => ?_) (fun h1 => ?_)
  · try simp only [Z.a, Z.b, Z.c, Z.d, Z.e, Z.f, Z.g, Z.h, Z.i, Z.j, Z.k, Z.l, Z.m] at h1
    have hk : i < l.length := by omega
    refine RO.nil ?_
    refine Runs.condT rfl ?_
    refine Runs.skip ?_
    refine thenQ_normal ?_
    refine Runs.has [(0, .d (.str _)), (1, .d (.list _)), (5, .d (.int _ _))] ⟨rfl, rfl, rfl, trivial⟩ ?_
    refine Runs.seq ?_
    refine Runs.block ?_
    refine Runs.rseq ?_
    refine RO.opv (v' := .d (.list _)) (opv_move rfl) rfl ?_
    refine RO.opv (v' := .d (.int _ _)) (opv_move rfl) rfl ?_
    refine RO.opv (v' := .d (.ptr _)) (opv_index_strs rfl rfl hk) rfl ?_
    refine RO.opv (v' := .d (.str _)) (opv_load_ptr rfl rfl) rfl ?_
    refine RO.opv (v' := .d (.str _)) (opv_move rfl) rfl ?_
    refine RO.opc (opv_bin rfl rfl rfl) (fun h2 => ?_) (fun h2 => ?_)
    · try simp only [Z.a, Z.b, Z.c, Z.d, Z.e, Z.f, Z.g, Z.h, Z.i, Z.j, Z.k, Z.l, Z.m] at h2
      have hq := h2
      refine RO.nil ?_
      refine Runs.condT rfl ?_
      refine Runs.has [(0, .d (.str _)), (1, .d (.list _)), (5, .d (.int _ _))] ⟨rfl, rfl, rfl, trivial⟩ ?_
      refine Runs.rseq ?_
      refine RO.opv (v' := .d (.bool true)) (opv_assign rfl) rfl ?_
      refine RO.nil ?_
      refine Runs.ret ?_
      refine blockQ_ret ?_
      refine thenQ_ret ?_
      refine thenQ_ret ?_
      refine blockQ_ret ?_
      refine thenQ_ret ?_
      refine EndQ.tmp (.inr rfl) rfl rfl 0 (by exact Nat.le_refl _) (by exact Nat.zero_le _) trivial ⟨?_, rfl⟩
      refine bool_eq ?_; exact (in_hit hk (by simpa using hq)).symm
    · try simp only [Z.a, Z.b, Z.c, Z.d, Z.e, Z.f, Z.g, Z.h, Z.i, Z.j, Z.k, Z.l, Z.m] at h2
      have hq := h2
      refine RO.nil ?_
      refine Runs.condF rfl ?_
      refine Runs.skip ?_
      refine blockQ_normal ?_
      refine thenQ_normal ?_
      refine Runs.has [(0, .d (.str _)), (1, .d (.list _)), (5, .d (.int _ _))] ⟨rfl, rfl, rfl, trivial⟩ ?_
      refine Runs.region ?_
      refine RO.opv (v' := .d (.int _ _)) (opv_move rfl) rfl ?_
      refine RO.opv (v' := .d (.int _ _)) (opv_bin rfl rfl rfl) rfl ?_
      refine RO.opv (v' := .d (.int _ _)) (opv_assign rfl) rfl ?_
      refine RO.nil ?_
      refine thenQ_normal ?_
      refine ⟨i + 1, 0, (by rw [hK]; exact Nat.le_of_ble_eq_true rfl), ⟨rfl, rfl, trivial⟩, ⟨?_, trivial⟩, rfl, ?_, ?_⟩
      · refine int_eq ?_; rw [wrap64 (by omega) (by omega)]; omega
      · refine ⟨by omega, fun j hj h => ?_⟩
        rcases Nat.lt_succ_iff_lt_or_eq.1 h with h' | h'
        · exact hi.2 j hj h'
        · subst h'; simpa using hq
      · omega
  · try simp only [Z.a, Z.b, Z.c, Z.d, Z.e, Z.f, Z.g, Z.h, Z.i, Z.j, Z.k, Z.l, Z.m] at h1
    have hk : i = l.length := by omega
    refine RO.nil ?_
    refine Runs.condF rfl ?_
    refine Runs.exit ?_
    refine thenQ_exit ?_
    refine thenQ_exit ?_
    refine blockQ_here ?_
    refine thenQ_normal ?_
    refine Runs.has [] trivial ?_
    refine Runs.rseq ?_
    refine RO.opv (v' := .d (.bool false)) (opv_assign rfl) rfl ?_
    refine RO.nil ?_
    refine Runs.ret ?_
    refine EndQ.tmp (.inr rfl) rfl rfl 0 (by exact Nat.le_refl _) (by exact Nat.zero_le _) trivial ⟨?_, rfl⟩
    refine bool_eq ?_; exact (in_not fun j hj => hi.2 j hj (by omega)).symm
theorem rknown_fn (s : ByteArray) (n : Int) : Fn Try.prog 84 [.d (.str s), .d (.int .i64 n)] [] (.d (.bool (knownB s n))) [] := by
  refine Does.run Try.func84 rfl Try.ntmps84 rfl fun K hK => ?_
  refine Runs.rseq ?_
  refine RO.opv (v' := .d (.bool false)) (opv_assign rfl) rfl ?_
  refine RO.nil ?_
  refine Runs.seq ?_
  refine Runs.rseq ?_
  refine RO.opv (v' := .d (.int _ _)) (opv_move rfl) rfl ?_
  refine RO.nil ?_
  refine Runs.block ?_
  refine Runs.has [(0, .d (.str _)), (4, .d (.bool false)), (5, .d (.int _ _))] ⟨rfl, rfl, rfl, trivial⟩ ?_
  refine Runs.rseq ?_
  refine RO.opv (v' := .d (.bool _)) (opv_bin rfl rfl rfl) rfl ?_
  refine RO.opc (opv_assign rfl) (fun h1 => ?_) (fun h1 => ?_)
  · try simp only [Z.a, Z.b, Z.c, Z.d, Z.e, Z.f, Z.g, Z.h, Z.i, Z.j, Z.k, Z.l, Z.m] at h1
    have q0 := h1
    refine RO.nil ?_
    refine Runs.condT rfl ?_
    refine Runs.has [(0, .d (.str _)), (4, .d (.bool false))] ⟨rfl, rfl, trivial⟩ ?_
    refine Runs.rseq ?_
    refine RO.opv (v' := .d (.str _)) (opv_move rfl) rfl ?_
    refine RO.opv (v' := .d (.list _)) (opv_buildSlice rfl rfl rfl rfl) rfl ?_
    refine RO.opv (v' := .d (.bool _)) (opv_callF (rin_fn s K0 (Nat.le_of_ble_eq_true rfl)) rfl rfl rfl trivial) rfl ?_
    refine RO.opv (v' := .d (.bool _)) (opv_assign rfl) rfl ?_
    refine RO.nil ?_
    refine Runs.ret ?_
    refine blockQ_ret ?_
    refine thenQ_ret ?_
    refine EndQ.tmp (.inr rfl) rfl rfl 0 (by exact Nat.le_refl _) (by exact Nat.zero_le _) trivial ⟨?_, rfl⟩
    rw [q0, known_0]; rfl
  · try simp only [Z.a, Z.b, Z.c, Z.d, Z.e, Z.f, Z.g, Z.h, Z.i, Z.j, Z.k, Z.l, Z.m] at h1
    have q0 := h1
    refine RO.nil ?_
    refine Runs.condF rfl ?_
    refine Runs.has [(0, .d (.str _)), (4, .d (.bool false)), (5, .d (.int _ _))] ⟨rfl, rfl, rfl, trivial⟩ ?_
    refine Runs.rseq ?_
    refine RO.opv (v' := .d (.bool _)) (opv_bin rfl rfl rfl) rfl ?_
    refine RO.opc (opv_assign rfl) (fun h2 => ?_) (fun h2 => ?_)
    · try simp only [Z.a, Z.b, Z.c, Z.d, Z.e, Z.f, Z.g, Z.h, Z.i, Z.j, Z.k, Z.l, Z.m] at h2
      have q1 := h2
      refine RO.nil ?_
      refine Runs.condT rfl ?_
      refine Runs.has [(0, .d (.str _)), (4, .d (.bool false))] ⟨rfl, rfl, trivial⟩ ?_
      refine Runs.rseq ?_
      refine RO.opv (v' := .d (.str _)) (opv_move rfl) rfl ?_
      refine RO.opv (v' := .d (.list _)) (opv_buildSlice rfl rfl rfl rfl) rfl ?_
      refine RO.opv (v' := .d (.bool _)) (opv_callF (rin_fn s K1 (Nat.le_of_ble_eq_true rfl)) rfl rfl rfl trivial) rfl ?_
      refine RO.opv (v' := .d (.bool _)) (opv_assign rfl) rfl ?_
      refine RO.nil ?_
      refine Runs.ret ?_
      refine blockQ_ret ?_
      refine thenQ_ret ?_
      refine EndQ.tmp (.inr rfl) rfl rfl 0 (by exact Nat.le_refl _) (by exact Nat.zero_le _) trivial ⟨?_, rfl⟩
      rw [q1, known_1]; rfl
    · try simp only [Z.a, Z.b, Z.c, Z.d, Z.e, Z.f, Z.g, Z.h, Z.i, Z.j, Z.k, Z.l, Z.m] at h2
      have q1 := h2
      refine RO.nil ?_
      refine Runs.condF rfl ?_
      refine Runs.has [(0, .d (.str _)), (4, .d (.bool false)), (5, .d (.int _ _))] ⟨rfl, rfl, rfl, trivial⟩ ?_
      refine Runs.rseq ?_
      refine RO.opv (v' := .d (.bool _)) (opv_bin rfl rfl rfl) rfl ?_
      refine RO.opc (opv_assign rfl) (fun h3 => ?_) (fun h3 => ?_)
      · try simp only [Z.a, Z.b, Z.c, Z.d, Z.e, Z.f, Z.g, Z.h, Z.i, Z.j, Z.k, Z.l, Z.m] at h3
        have q2 := h3
        refine RO.nil ?_
        refine Runs.condT rfl ?_
        refine Runs.has [(0, .d (.str _)), (4, .d (.bool false))] ⟨rfl, rfl, trivial⟩ ?_
        refine Runs.rseq ?_
        refine RO.opv (v' := .d (.str _)) (opv_move rfl) rfl ?_
        refine RO.opv (v' := .d (.list _)) (opv_buildSlice rfl rfl rfl rfl) rfl ?_
        refine RO.opv (v' := .d (.bool _)) (opv_callF (rin_fn s K2 (Nat.le_of_ble_eq_true rfl)) rfl rfl rfl trivial) rfl ?_
        refine RO.opv (v' := .d (.bool _)) (opv_assign rfl) rfl ?_
        refine RO.nil ?_
        refine Runs.ret ?_
        refine blockQ_ret ?_
        refine thenQ_ret ?_
        refine EndQ.tmp (.inr rfl) rfl rfl 0 (by exact Nat.le_refl _) (by exact Nat.zero_le _) trivial ⟨?_, rfl⟩
        rw [q2, known_2]; rfl
      · try simp only [Z.a, Z.b, Z.c, Z.d, Z.e, Z.f, Z.g, Z.h, Z.i, Z.j, Z.k, Z.l, Z.m] at h3
        have q2 := h3
        refine RO.nil ?_
        refine Runs.condF rfl ?_
        refine Runs.has [(0, .d (.str _)), (4, .d (.bool false)), (5, .d (.int _ _))] ⟨rfl, rfl, rfl, trivial⟩ ?_
        refine Runs.rseq ?_
        refine RO.opv (v' := .d (.bool _)) (opv_bin rfl rfl rfl) rfl ?_
        refine RO.opc (opv_assign rfl) (fun h4 => ?_) (fun h4 => ?_)
        · try simp only [Z.a, Z.b, Z.c, Z.d, Z.e, Z.f, Z.g, Z.h, Z.i, Z.j, Z.k, Z.l, Z.m] at h4
          have q4 := h4
          refine RO.nil ?_
          refine Runs.condT rfl ?_
          refine Runs.has [(0, .d (.str _)), (4, .d (.bool false))] ⟨rfl, rfl, trivial⟩ ?_
          refine Runs.rseq ?_
          refine RO.opv (v' := .d (.str _)) (opv_move rfl) rfl ?_
          refine RO.opv (v' := .d (.bool _)) (opv_bin rfl rfl rfl) rfl ?_
          refine RO.opv (v' := .d (.bool _)) (opv_assign rfl) rfl ?_
          refine RO.nil ?_
          refine Runs.ret ?_
          refine blockQ_ret ?_
          refine thenQ_ret ?_
          refine EndQ.tmp (.inr rfl) rfl rfl 0 (by exact Nat.le_refl _) (by exact Nat.zero_le _) trivial ⟨?_, rfl⟩
          rw [q4, known_4]; rfl
        · try simp only [Z.a, Z.b, Z.c, Z.d, Z.e, Z.f, Z.g, Z.h, Z.i, Z.j, Z.k, Z.l, Z.m] at h4
          have q4 := h4
          refine RO.nil ?_
          refine Runs.condF rfl ?_
          refine Runs.skip ?_
          refine blockQ_normal ?_
          refine thenQ_normal ?_
          refine Runs.has [(4, .d (.bool false))] ⟨rfl, trivial⟩ ?_
          refine Runs.rseq ?_
          refine RO.opv (v' := .d (.bool false)) (opv_assign rfl) rfl ?_
          refine RO.nil ?_
          refine Runs.ret ?_
          refine EndQ.tmp (.inr rfl) rfl rfl 0 (by exact Nat.le_refl _) (by exact Nat.zero_le _) trivial ⟨?_, rfl⟩
          rw [known_else q0 q1 q2 q4]; first | done | rfl
theorem rclause_fn (hd bd : Term) (lv : Int) (hb : hd.bulk + bd.bulk ≤ 2 ^ 27) : Fn Try.prog 81 [.d (enc hd), .d (enc bd), .d (.int .i64 lv)] [] (.tup [.d (encCl (parse1 lv (Term.node 3 0 neck [hd, bd])).1), .d (.int .i64 (parse1 lv (Term.node 3 0 neck [hd, bd])).2)]) [] := by
  refine Does.run Try.func81 rfl Try.ntmps81 rfl fun K hK => ?_
  refine Runs.rseq ?_
  refine RO.opn (v' := .ref 0 0) (O' := [_]) (opv_box_term rfl) rfl rfl ?_
  refine RO.opn (v' := .ref 1 0) (O' := [_, _]) (opv_box_term rfl) rfl rfl ?_
  refine RO.opn (v' := .ref 2 0) (O' := [_, _, _]) (opv_alloc) rfl rfl ?_
  refine RO.opv (v' := .d (.int _ _)) (opv_assign rfl) rfl ?_
  refine RO.nil ?_
  refine Runs.has [(2, .d (.int _ _)), (3, .ref 0 0), (4, .ref 1 0), (6, .ref 2 0), (7, .d (.int _ _))] ⟨rfl, rfl, rfl, rfl, rfl, trivial⟩ ?_
  refine Runs.seq ?_
  refine Runs.rseq ?_
  refine RO.opv (v' := .ref 0 0) (opv_field_ref rfl rfl) rfl ?_
  refine RO.opv (v' := .d (.int _ _)) (opv_load_ref rfl rfl rfl) rfl ?_
  refine RO.opc (opv_bin rfl rfl rfl) (fun h1 => ?_) (fun h1 => ?_)
  · try simp only [Z.a, Z.b, Z.c, Z.d, Z.e, Z.f, Z.g, Z.h, Z.i, Z.j, Z.k, Z.l, Z.m] at h1
    have hkd := h1
    refine RO.nil ?_
    refine Runs.condT rfl ?_
    refine Runs.has [(2, .d (.int _ _)), (3, .ref 0 0), (4, .ref 1 0), (6, .ref 2 0), (7, .d (.int _ _))] ⟨rfl, rfl, rfl, rfl, rfl, trivial⟩ ?_
    refine Runs.rseq ?_
    refine RO.opv (v' := .d (encCl _)) (opv_build_cl0 rfl rfl) rfl ?_
    refine RO.op0n (O' := [_, _, _]) (opv_store_cl rfl rfl rfl rfl) rfl ?_
    refine RO.opv (v' := .d (.int _ _)) (opv_assign rfl) rfl ?_
    refine RO.nil ?_
    refine Runs.ret ?_
    refine thenQ_ret ?_
    refine EndQ.ct (v := .d (encCl _)) (v' := .d (.int _ _)) (.inr rfl) rfl rfl rfl (by exact take_cl _) rfl 0 (by exact Nat.le_refl _) (by exact Nat.zero_le _) trivial trivial ⟨?_, rfl⟩
    rw [p1_type (r := (Term.node 3 0 neck [hd, bd])) (Nat.zero_lt_succ _) hkd]; try rfl
  · try simp only [Z.a, Z.b, Z.c, Z.d, Z.e, Z.f, Z.g, Z.h, Z.i, Z.j, Z.k, Z.l, Z.m] at h1
    have hkd := h1
    refine RO.nil ?_
    refine Runs.condF rfl ?_
    refine Runs.skip ?_
    refine thenQ_normal ?_
    refine Runs.has [(2, .d (.int _ _)), (3, .ref 0 0), (4, .ref 1 0), (6, .ref 2 0), (7, .d (.int _ _))] ⟨rfl, rfl, rfl, rfl, rfl, trivial⟩ ?_
    refine Runs.seq ?_
    refine Runs.rseq ?_
    refine RO.opv (v' := .ref 0 2) (opv_field_ref rfl rfl) rfl ?_
    refine RO.opv (v' := .d (.str _)) (opv_load_ref rfl rfl rfl) rfl ?_
    refine RO.opv (v' := .ref 0 3) (opv_field_ref rfl rfl) rfl ?_
    refine RO.opv (v' := .d (.list (encs _))) (opv_load_ref rfl rfl rfl) rfl ?_
    refine RO.opv (v' := .d (.int _ _)) (opv_len_terms rfl) rfl ?_
    refine RO.opv (v' := .d (.bool _)) (opv_callF (rknown_fn _ _) rfl rfl rfl trivial) rfl ?_
    refine RO.opc (opv_move rfl) (fun h2 => ?_) (fun h2 => ?_)
    · try simp only [Z.a, Z.b, Z.c, Z.d, Z.e, Z.f, Z.g, Z.h, Z.i, Z.j, Z.k, Z.l, Z.m] at h2
      have hkn := h2
      refine RO.off rfl ?_
      refine RO.off rfl ?_
      refine RO.opv (v' := .d (.bool true)) (opv_pick rfl rfl) rfl ?_
      refine RO.opv (v' := .d (.bool true)) (opv_move rfl) rfl ?_
      refine RO.off rfl ?_
      refine RO.off rfl ?_
      refine RO.opv (v' := .d (.bool true)) (opv_pick rfl rfl) rfl ?_
      refine RO.nil ?_
      refine Runs.condT rfl ?_
      refine Runs.has [(2, .d (.int _ _)), (3, .ref 0 0), (4, .ref 1 0), (6, .ref 2 0), (7, .d (.int _ _))] ⟨rfl, rfl, rfl, rfl, rfl, trivial⟩ ?_
      refine Runs.rseq ?_
      refine RO.opv (v' := .d (encCl _)) (opv_build_cl0 rfl rfl) rfl ?_
      refine RO.op0n (O' := [_, _, _]) (opv_store_cl rfl rfl rfl rfl) rfl ?_
      refine RO.opv (v' := .d (.int _ _)) (opv_assign rfl) rfl ?_
      refine RO.nil ?_
      refine Runs.ret ?_
      refine thenQ_ret ?_
      refine EndQ.ct (v := .d (encCl _)) (v' := .d (.int _ _)) (.inr rfl) rfl rfl rfl (by exact take_cl _) rfl 0 (by exact Nat.le_refl _) (by exact Nat.zero_le _) trivial trivial ⟨?_, rfl⟩
      rw [p1_there (r := (Term.node 3 0 neck [hd, bd])) (Nat.zero_lt_succ _) hkd (or3a hkn)]; try rfl
    · try simp only [Z.a, Z.b, Z.c, Z.d, Z.e, Z.f, Z.g, Z.h, Z.i, Z.j, Z.k, Z.l, Z.m] at h2
      have hkn := h2
      refine RO.opgv (v' := .d (enc _)) rfl (opv_load_term rfl rfl rfl) rfl ?_
      refine RO.opgv (v' := .d (.bool _)) rfl (opv_callF (rtwo_fn _ _) rfl rfl rfl trivial) rfl ?_
      refine RO.opv (v' := .d (.bool _)) (opv_pick rfl rfl) rfl ?_
      refine RO.opc (opv_move rfl) (fun h3 => ?_) (fun h3 => ?_)
      · try simp only [Z.a, Z.b, Z.c, Z.d, Z.e, Z.f, Z.g, Z.h, Z.i, Z.j, Z.k, Z.l, Z.m] at h3
        have hkk := h3
        refine RO.off rfl ?_
        refine RO.off rfl ?_
        refine RO.opv (v' := .d (.bool true)) (opv_pick rfl rfl) rfl ?_
        refine RO.nil ?_
        refine Runs.condT rfl ?_
        refine Runs.has [(2, .d (.int _ _)), (3, .ref 0 0), (4, .ref 1 0), (6, .ref 2 0), (7, .d (.int _ _))] ⟨rfl, rfl, rfl, rfl, rfl, trivial⟩ ?_
        refine Runs.rseq ?_
        refine RO.opv (v' := .d (encCl _)) (opv_build_cl0 rfl rfl) rfl ?_
        refine RO.op0n (O' := [_, _, _]) (opv_store_cl rfl rfl rfl rfl) rfl ?_
        refine RO.opv (v' := .d (.int _ _)) (opv_assign rfl) rfl ?_
        refine RO.nil ?_
        refine Runs.ret ?_
        refine thenQ_ret ?_
        refine EndQ.ct (v := .d (encCl _)) (v' := .d (.int _ _)) (.inr rfl) rfl rfl rfl (by exact take_cl _) rfl 0 (by exact Nat.le_refl _) (by exact Nat.zero_le _) trivial trivial ⟨?_, rfl⟩
        rw [p1_there (r := (Term.node 3 0 neck [hd, bd])) (Nat.zero_lt_succ _) hkd (or3b hkk)]; try rfl
      · try simp only [Z.a, Z.b, Z.c, Z.d, Z.e, Z.f, Z.g, Z.h, Z.i, Z.j, Z.k, Z.l, Z.m] at h3
        have hkk := h3
        refine RO.opgv (v' := .d (enc _)) rfl (opv_load_term rfl rfl rfl) rfl ?_
        refine RO.opgv (v' := .d (.bool _)) rfl (opv_callF (rtwo_fn _ _) rfl rfl rfl trivial) rfl ?_
        refine RO.opc (opv_pick rfl rfl) (fun h4 => ?_) (fun h4 => ?_)
        · try simp only [Z.a, Z.b, Z.c, Z.d, Z.e, Z.f, Z.g, Z.h, Z.i, Z.j, Z.k, Z.l, Z.m] at h4
          have hkc := h4
          refine RO.nil ?_
          refine Runs.condT rfl ?_
          refine Runs.has [(2, .d (.int _ _)), (3, .ref 0 0), (4, .ref 1 0), (6, .ref 2 0), (7, .d (.int _ _))] ⟨rfl, rfl, rfl, rfl, rfl, trivial⟩ ?_
          refine Runs.rseq ?_
          refine RO.opv (v' := .d (encCl _)) (opv_build_cl0 rfl rfl) rfl ?_
          refine RO.op0n (O' := [_, _, _]) (opv_store_cl rfl rfl rfl rfl) rfl ?_
          refine RO.opv (v' := .d (.int _ _)) (opv_assign rfl) rfl ?_
          refine RO.nil ?_
          refine Runs.ret ?_
          refine thenQ_ret ?_
          refine EndQ.ct (v := .d (encCl _)) (v' := .d (.int _ _)) (.inr rfl) rfl rfl rfl (by exact take_cl _) rfl 0 (by exact Nat.le_refl _) (by exact Nat.zero_le _) trivial trivial ⟨?_, rfl⟩
          rw [p1_there (r := (Term.node 3 0 neck [hd, bd])) (Nat.zero_lt_succ _) hkd (or3c hkc)]; try rfl
        · try simp only [Z.a, Z.b, Z.c, Z.d, Z.e, Z.f, Z.g, Z.h, Z.i, Z.j, Z.k, Z.l, Z.m] at h4
          have hkc := h4
          refine RO.nil ?_
          refine Runs.condF rfl ?_
          refine Runs.skip ?_
          refine thenQ_normal ?_
          refine Runs.has [(2, .d (.int _ _)), (3, .ref 0 0), (4, .ref 1 0), (6, .ref 2 0), (7, .d (.int _ _))] ⟨rfl, rfl, rfl, rfl, rfl, trivial⟩ ?_
          refine Runs.rseq ?_
          refine RO.opv (v' := .d (enc _)) (opv_load_term rfl rfl rfl) rfl ?_
          refine RO.opv (v' := .d (enc _)) (opv_load_term rfl rfl rfl) rfl ?_
          refine RO.opv (v' := .d (.list (encs _))) (opv_bs_term2 rfl rfl ) rfl ?_
          refine RO.opv (v' := .d (enc _)) (opv_build_term rfl rfl) rfl ?_
          refine RO.opv (opv_callF (rnorm_fn (Term.node 3 0 neck [hd, bd]) (by show 2 + (hd.bulk + (bd.bulk + 0)) + 1 ≤ _; omega)) rfl rfl rfl ⟨trivial, trivial, trivial⟩) rfl ?_
          refine RO.opv (opv_move rfl) rfl ?_
          refine RO.opv (v' := .d (enc _)) (opv_extract rfl rfl) rfl ?_
          refine RO.opv (v' := .d (.int _ _)) (opv_extract rfl rfl) rfl ?_
          refine RO.opn (v' := .ref 3 0) (O' := [_, _, _, _]) (opv_alloc) rfl rfl ?_
          refine RO.op0n (O' := [_, _, _, _]) (opv_store_term rfl rfl rfl (Nat.le_of_ble_eq_true rfl)) rfl ?_
          refine RO.opv (v' := .d (.int _ _)) (opv_assign rfl) rfl ?_
          refine RO.nil ?_
          refine Runs.has [(2, .d (.int _ _)), (6, .ref 2 0), (7, .d (.int _ _)), (8, .ref 3 0), (9, .d (.int _ _))] ⟨rfl, rfl, rfl, rfl, rfl, trivial⟩ ?_
          refine Runs.seq ?_
          refine Runs.drawn (by kernel_rfl) [] [false, false, false, false, false, false, false, false, false, false, false, false, false] [false, false, false, false, false, false, false, false, false, false, false, true, false] (by decide +kernel) ?_
          refine RD.opv (v' := .d (.int _ _)) (opv_move rfl) rfl ?_
          refine RD.opv (v' := .ref 3 3) (opv_field_ref rfl rfl) rfl ?_
          refine RD.opv (v' := .d (.list (encs _))) (opv_load_ref rfl rfl rfl) rfl ?_
          refine RD.opv (v' := .d (.ptr _)) (opv_index_terms (i := 0) rfl rfl (by rw [norm_len]; exact Nat.zero_lt_succ _)) rfl ?_
          refine RD.opv (v' := .d (enc _)) (opv_load_pterm rfl) rfl ?_
          refine RD.opv (v' := .ref 3 3) (opv_field_ref rfl rfl) rfl ?_
          refine RD.opv (v' := .d (.list (encs _))) (opv_load_ref rfl rfl rfl) rfl ?_
          refine RD.opv (v' := .d (.ptr _)) (opv_index_terms (i := 1) rfl rfl (by rw [norm_len]; exact Nat.succ_lt_succ (Nat.zero_lt_succ _))) rfl ?_
          refine RD.opv (v' := .d (enc _)) (opv_load_pterm rfl) rfl ?_
          refine RD.opv (v' := .d (.int _ _)) (opv_move rfl) rfl ?_
          refine RD.opv (v' := .d (encCl _)) (opv_build_cl rfl rfl rfl rfl rfl) rfl ?_
          refine RD.op0n (O' := [_, _, _, _]) (opv_store_cl rfl rfl rfl rfl) rfl trivial ?_
          refine RD.opv (v' := .d (.int _ _)) (opv_assign rfl) rfl ?_
          refine RD.nil ?_
          refine thenQ_normal ?_
          refine Runs.ret ?_
          refine EndQ.ct (v := .d (encCl _)) (v' := .d (.int _ _)) (.inr rfl) rfl rfl rfl (by exact take_cl _) rfl 0 (by exact Nat.le_refl _) (by exact Nat.zero_le _) trivial trivial ⟨?_, rfl⟩
          rw [p1_ok (r := (Term.node 3 0 neck [hd, bd])) (Nat.zero_lt_succ _) hkd (or3n hkn hkk hkc) (by rw [norm_len]; exact Nat.zero_lt_succ _) (by rw [norm_len]; exact Nat.succ_lt_succ (Nat.zero_lt_succ _))]; try rfl
theorem rat_fn (t : Term) (lv : Int) (hb : t.bulk ≤ 2 ^ 26) : Fn Try.prog 61 [.d (enc t), .d (.int .i64 lv)] [] (.tup [.d (encCl (parse1 lv (asRule t)).1), .d (.int .i64 (parse1 lv (asRule t)).2)]) [] := by
  have hU := t.bulk_kids
  refine Does.run Try.func61 rfl Try.ntmps61 rfl fun K hK => ?_
  refine Runs.rseq ?_
  refine RO.opn (v' := .ref 0 0) (O' := [_]) (opv_box_term rfl) rfl rfl ?_
  refine RO.opn (v' := .ref 1 0) (O' := [_, _]) (opv_alloc) rfl rfl ?_
  refine RO.opv (v' := .d (.int _ _)) (opv_assign rfl) rfl ?_
  refine RO.nil ?_
  refine Runs.has [(1, .d (.int _ _)), (2, .ref 0 0), (4, .ref 1 0), (5, .d (.int _ _))] ⟨rfl, rfl, rfl, rfl, trivial⟩ ?_
  refine Runs.seq ?_
  refine Runs.rseq ?_
  refine RO.opv (v' := .d (enc _)) (opv_load_term rfl rfl rfl) rfl ?_
  refine RO.opc (opv_callF (rtwo_fn _ _) rfl rfl rfl trivial) (fun h1 => ?_) (fun h1 => ?_)
  · try simp only [Z.a, Z.b, Z.c, Z.d, Z.e, Z.f, Z.g, Z.h, Z.i, Z.j, Z.k, Z.l, Z.m] at h1
    have hr2 : t.two neck = true := h1
    have hlen := (two_iff.1 hr2).2.2
    have hk0 : 0 < t.kids.length := by omega
    have hk1 : 1 < t.kids.length := by omega
    have hb0 := bulks_mem (List.getElem_mem hk0)
    have hb1 := bulks_mem (List.getElem_mem hk1)
    refine RO.nil ?_
    refine Runs.condT rfl ?_
    refine Runs.has [(1, .d (.int _ _)), (2, .ref 0 0), (4, .ref 1 0), (5, .d (.int _ _))] ⟨rfl, rfl, rfl, rfl, trivial⟩ ?_
    refine Runs.seq ?_
    refine Runs.drawn (by kernel_rfl) [] [false, false, false, false, false, false, false, false, false, false, false, false, false, false] [false, false, false, false, false, false, false, false, false, false, false, false, true, false] (by decide +kernel) ?_
    refine RD.opv (v' := .ref 0 3) (opv_field_ref rfl rfl) rfl ?_
    refine RD.opv (v' := .d (.list (encs _))) (opv_load_ref rfl rfl rfl) rfl ?_
    refine RD.opv (v' := .d (.ptr _)) (opv_index_terms (i := 0) rfl rfl hk0) rfl ?_
    refine RD.opv (v' := .d (enc _)) (opv_load_pterm rfl) rfl ?_
    refine RD.opv (v' := .ref 0 3) (opv_field_ref rfl rfl) rfl ?_
    refine RD.opv (v' := .d (.list (encs _))) (opv_load_ref rfl rfl rfl) rfl ?_
    refine RD.opv (v' := .d (.ptr _)) (opv_index_terms (i := 1) rfl rfl hk1) rfl ?_
    refine RD.opv (v' := .d (enc _)) (opv_load_pterm rfl) rfl ?_
    refine RD.opv (v' := .d (.int _ _)) (opv_move rfl) rfl ?_
    refine RD.opv (opv_callF (rclause_fn t.kids[0] t.kids[1] lv (by omega)) rfl rfl rfl ⟨trivial, trivial, trivial⟩) rfl ?_
    refine RD.opv (v' := .d (encCl _)) (opv_extract rfl rfl) rfl ?_
    refine RD.opv (v' := .d (.int _ _)) (opv_extract rfl rfl) rfl ?_
    refine RD.op0n (O' := [_, _]) (opv_store_cl rfl rfl rfl rfl) rfl trivial ?_
    refine RD.opv (v' := .d (.int _ _)) (opv_assign rfl) rfl ?_
    refine RD.nil ?_
    refine thenQ_normal ?_
    refine Runs.ret ?_
    refine thenQ_ret ?_
    refine EndQ.ct (v := .d (encCl _)) (v' := .d (.int _ _)) (.inr rfl) rfl rfl rfl (by exact take_cl _) rfl 0 (by exact Nat.le_refl _) (by exact Nat.zero_le _) trivial trivial ⟨?_, rfl⟩
    rw [parse1_two hr2 hk0 hk1, asRule_yes hr2]
  · try simp only [Z.a, Z.b, Z.c, Z.d, Z.e, Z.f, Z.g, Z.h, Z.i, Z.j, Z.k, Z.l, Z.m] at h1
    have hr2 : t.two neck = false := h1
    refine RO.nil ?_
    refine Runs.condF rfl ?_
    refine Runs.skip ?_
    refine thenQ_normal ?_
    refine Runs.has [(1, .d (.int _ _)), (2, .ref 0 0), (4, .ref 1 0), (5, .d (.int _ _))] ⟨rfl, rfl, rfl, rfl, trivial⟩ ?_
    refine Runs.rseq ?_
    refine RO.opv (v' := .d (enc _)) (opv_load_term rfl rfl rfl) rfl ?_
    refine RO.opv (v' := .d (enc _)) (opv_build_term (ks := []) rfl rfl) rfl ?_
    refine RO.opv (v' := .d (.int _ _)) (opv_move rfl) rfl ?_
    refine RO.opv (opv_callF (rclause_fn t trueT lv (by have h5 : trueT.bulk = 5 := rfl; omega)) rfl rfl rfl ⟨trivial, trivial, trivial⟩) rfl ?_
    refine RO.opv (v' := .d (encCl _)) (opv_extract rfl rfl) rfl ?_
    refine RO.opv (v' := .d (.int _ _)) (opv_extract rfl rfl) rfl ?_
    refine RO.op0n (O' := [_, _]) (opv_store_cl rfl rfl rfl rfl) rfl ?_
    refine RO.opv (v' := .d (.int _ _)) (opv_assign rfl) rfl ?_
    refine RO.nil ?_
    refine Runs.ret ?_
    refine EndQ.ct (v := .d (encCl _)) (v' := .d (.int _ _)) (.inr rfl) rfl rfl rfl (by exact take_cl _) rfl 0 (by exact Nat.le_refl _) (by exact Nat.zero_le _) trivial trivial ⟨?_, rfl⟩
    rw [asRule_no (by rw [hr2]; simp)]
theorem rparse_fn (M : List (List Bool)) (l : Lt) (hM : Mt M l) (t : Term) (hb : t.bulk ≤ 2 ^ 26) : Fn Try.prog 35 [.d (encR M), .d (enc t)] [] (.tup [.d (encCl (parseL l t).1), .d (.int .i64 (parseL l t).2)]) [] := by
  have hU := t.bulk_kids
  have hMl := hM.sq.1
  refine Does.run Try.func35 rfl Try.ntmps35 rfl fun K hK => ?_
  refine Runs.rseq ?_
  refine RO.opn (v' := .ref 0 0) (O' := [_]) (opv_box rfl rfl) rfl rfl ?_
  refine RO.opn (v' := .ref 1 0) (O' := [_, _]) (opv_box_term rfl) rfl rfl ?_
  refine RO.opn (v' := .ref 2 0) (O' := [_, _, _]) (opv_alloc) rfl rfl ?_
  refine RO.opv (v' := .d (.int _ _)) (opv_assign rfl) rfl ?_
  refine RO.nil ?_
  refine Runs.has [(2, .ref 0 0), (3, .ref 1 0), (4, .ref 2 0), (5, .d (.int _ _))] ⟨rfl, rfl, rfl, rfl, trivial⟩ ?_
  refine Runs.seq ?_
  refine Runs.rseq ?_
  refine RO.opv (v' := .d (enc _)) (opv_load_term rfl rfl rfl) rfl ?_
  refine RO.opv (v' := .d (.bool _)) (opv_callF (rtwo_fn _ _) rfl rfl rfl trivial) rfl ?_
  refine RO.opc (opv_not rfl rfl) (fun h1 => ?_) (fun h1 => ?_)
  · try simp only [Z.a, Z.b, Z.c, Z.d, Z.e, Z.f, Z.g, Z.h, Z.i, Z.j, Z.k, Z.l, Z.m] at h1
    have hc : t.two ncol = false := h1
    refine RO.nil ?_
    refine Runs.condT rfl ?_
    refine Runs.has [(2, .ref 0 0), (3, .ref 1 0), (4, .ref 2 0), (5, .d (.int _ _))] ⟨rfl, rfl, rfl, rfl, trivial⟩ ?_
    refine Runs.seq ?_
    refine Runs.drawn (by kernel_rfl) [] [false, false, false, false, false, false, false, false] [false, false, false, false, false, false, true, false] (by decide +kernel) ?_
    refine RD.opv (v' := .d (enc _)) (opv_load_term rfl rfl rfl) rfl ?_
    refine RD.opv (v' := .d (encR _)) (opv_load_ref rfl rfl rfl) rfl ?_
    refine RD.opv (v' := .d (.int _ _)) (opv_callF (mbot_fn M l hM) rfl rfl rfl trivial) rfl ?_
    refine RD.opv (opv_callF (rat_fn t l.bottom hb) rfl rfl rfl ⟨trivial, trivial, trivial⟩) rfl ?_
    refine RD.opv (v' := .d (encCl _)) (opv_extract rfl rfl) rfl ?_
    refine RD.opv (v' := .d (.int _ _)) (opv_extract rfl rfl) rfl ?_
    refine RD.op0n (O' := [_, _, _]) (opv_store_cl rfl rfl rfl rfl) rfl trivial ?_
    refine RD.opv (v' := .d (.int _ _)) (opv_assign rfl) rfl ?_
    refine RD.nil ?_
    refine thenQ_normal ?_
    refine Runs.ret ?_
    refine thenQ_ret ?_
    refine EndQ.ct (v := .d (encCl _)) (v' := .d (.int _ _)) (.inr rfl) rfl rfl rfl (by exact take_cl _) rfl 0 (by exact Nat.le_refl _) (by exact Nat.zero_le _) trivial trivial ⟨?_, rfl⟩
    rw [parse_out hc]
  · try simp only [Z.a, Z.b, Z.c, Z.d, Z.e, Z.f, Z.g, Z.h, Z.i, Z.j, Z.k, Z.l, Z.m] at h1
    have hc : t.two ncol = true := h1
    have hlen := (two_iff.1 hc).2.2
    have hk0 : 0 < t.kids.length := by omega
    have hk1 : 1 < t.kids.length := by omega
    have hkb := bulks_mem (List.getElem_mem hk1)
    refine RO.nil ?_
    refine Runs.condF rfl ?_
    refine Runs.skip ?_
    refine thenQ_normal ?_
    refine Runs.has [(2, .ref 0 0), (3, .ref 1 0), (4, .ref 2 0), (5, .d (.int _ _))] ⟨rfl, rfl, rfl, rfl, trivial⟩ ?_
    refine Runs.rseq ?_
    refine RO.opv (v' := .ref 1 3) (opv_field_ref rfl rfl) rfl ?_
    refine RO.opv (v' := .d (.list (encs _))) (opv_load_ref rfl rfl rfl) rfl ?_
    refine RO.opv (v' := .d (.ptr _)) (opv_index_terms (i := 0) rfl rfl hk0) rfl ?_
    refine RO.opv (v' := .d (enc _)) (opv_load_pterm rfl) rfl ?_
    refine RO.opn (v' := .ref 3 0) (O' := [_, _, _, _]) (opv_alloc) rfl rfl ?_
    refine RO.op0n (O' := [_, _, _, _]) (opv_store_term rfl rfl rfl (Nat.le_of_ble_eq_true rfl)) rfl ?_
    refine RO.nil ?_
    refine Runs.has [(2, .ref 0 0), (3, .ref 1 0), (4, .ref 2 0), (5, .d (.int _ _)), (6, .ref 3 0)] ⟨rfl, rfl, rfl, rfl, rfl, trivial⟩ ?_
    refine Runs.seq ?_
    refine Runs.rseq ?_
    refine RO.opv (v' := .ref 3 0) (opv_field_ref rfl rfl) rfl ?_
    refine RO.opv (v' := .d (.int _ _)) (opv_load_ref rfl rfl rfl) rfl ?_
    refine RO.opv (v' := .d (.bool _)) (opv_bin rfl rfl rfl) rfl ?_
    refine RO.opc (opv_move rfl) (fun h2 => ?_) (fun h2 => ?_)
    · try simp only [Z.a, Z.b, Z.c, Z.d, Z.e, Z.f, Z.g, Z.h, Z.i, Z.j, Z.k, Z.l, Z.m] at h2
      have hbad := h2
      refine RO.off rfl ?_
      refine RO.off rfl ?_
      refine RO.off rfl ?_
      refine RO.opv (v' := .d (.bool true)) (opv_pick rfl rfl) rfl ?_
      refine RO.opv (v' := .d (.bool true)) (opv_move rfl) rfl ?_
      refine RO.off rfl ?_
      refine RO.off rfl ?_
      refine RO.off rfl ?_
      refine RO.off rfl ?_
      refine RO.off rfl ?_
      refine RO.off rfl ?_
      refine RO.opv (v' := .d (.bool true)) (opv_pick rfl rfl) rfl ?_
      refine RO.nil ?_
      refine Runs.condT rfl ?_
      refine Runs.has [(3, .ref 1 0), (4, .ref 2 0), (5, .d (.int _ _)), (6, .ref 3 0)] ⟨rfl, rfl, rfl, rfl, trivial⟩ ?_
      refine Runs.rseq ?_
      refine RO.opv (v' := .d (encCl _)) (opv_build_cl0 rfl rfl) rfl ?_
      refine RO.op0n (O' := [_, _, _, _]) (opv_store_cl rfl rfl rfl rfl) rfl ?_
      refine RO.opv (v' := .d (.int _ _)) (opv_assign rfl) rfl ?_
      refine RO.nil ?_
      refine Runs.ret ?_
      refine thenQ_ret ?_
      refine EndQ.ct (v := .d (encCl _)) (v' := .d (.int _ _)) (.inr rfl) rfl rfl rfl (by exact take_cl _) rfl 0 (by exact Nat.le_refl _) (by exact Nat.zero_le _) trivial trivial ⟨?_, rfl⟩
      rw [parse_range hc hk0 (by simp only [not_and]; intros; omega)]; try rfl
    · try simp only [Z.a, Z.b, Z.c, Z.d, Z.e, Z.f, Z.g, Z.h, Z.i, Z.j, Z.k, Z.l, Z.m] at h2
      have hi1 : t.kids[0].kind = 2 := by omega
      refine RO.opgv (v' := .ref 3 1) rfl (opv_field_ref rfl rfl) rfl ?_
      refine RO.opgv (v' := .d (.int _ _)) rfl (opv_load_ref rfl rfl rfl) rfl ?_
      refine RO.opgv (v' := .d (.bool _)) rfl (opv_bin rfl rfl rfl) rfl ?_
      refine RO.opv (v' := .d (.bool _)) (opv_pick rfl rfl) rfl ?_
      refine RO.opc (opv_move rfl) (fun h3 => ?_) (fun h3 => ?_)
      · try simp only [Z.a, Z.b, Z.c, Z.d, Z.e, Z.f, Z.g, Z.h, Z.i, Z.j, Z.k, Z.l, Z.m] at h3
        have hbad := h3
        refine RO.off rfl ?_
        refine RO.off rfl ?_
        refine RO.off rfl ?_
        refine RO.off rfl ?_
        refine RO.off rfl ?_
        refine RO.off rfl ?_
        refine RO.opv (v' := .d (.bool true)) (opv_pick rfl rfl) rfl ?_
        refine RO.nil ?_
        refine Runs.condT rfl ?_
        refine Runs.has [(3, .ref 1 0), (4, .ref 2 0), (5, .d (.int _ _)), (6, .ref 3 0)] ⟨rfl, rfl, rfl, rfl, trivial⟩ ?_
        refine Runs.rseq ?_
        refine RO.opv (v' := .d (encCl _)) (opv_build_cl0 rfl rfl) rfl ?_
        refine RO.op0n (O' := [_, _, _, _]) (opv_store_cl rfl rfl rfl rfl) rfl ?_
        refine RO.opv (v' := .d (.int _ _)) (opv_assign rfl) rfl ?_
        refine RO.nil ?_
        refine Runs.ret ?_
        refine thenQ_ret ?_
        refine EndQ.ct (v := .d (encCl _)) (v' := .d (.int _ _)) (.inr rfl) rfl rfl rfl (by exact take_cl _) rfl 0 (by exact Nat.le_refl _) (by exact Nat.zero_le _) trivial trivial ⟨?_, rfl⟩
        rw [parse_range hc hk0 (by simp only [not_and]; intros; omega)]; try rfl
      · try simp only [Z.a, Z.b, Z.c, Z.d, Z.e, Z.f, Z.g, Z.h, Z.i, Z.j, Z.k, Z.l, Z.m] at h3
        have hi2 : (0 : Int) ≤ t.kids[0].num := by omega
        refine RO.opgv (v' := .ref 3 1) rfl (opv_field_ref rfl rfl) rfl ?_
        refine RO.opgv (v' := .d (.int _ _)) rfl (opv_load_ref rfl rfl rfl) rfl ?_
        refine RO.opgv (v' := .ref 0 0) rfl (opv_field_ref rfl rfl) rfl ?_
        refine RO.opgv (v' := .d (.list (rowsD _))) rfl (opv_load_ref rfl rfl rfl) rfl ?_
        refine RO.opgv (v' := .d (.int _ _)) rfl (opv_len_rows rfl) rfl ?_
        refine RO.opgv (v' := .d (.bool _)) rfl (opv_bin rfl rfl rfl) rfl ?_
        refine RO.opc (opv_pick rfl rfl) (fun h4 => ?_) (fun h4 => ?_)
        · try simp only [Z.a, Z.b, Z.c, Z.d, Z.e, Z.f, Z.g, Z.h, Z.i, Z.j, Z.k, Z.l, Z.m] at h4
          have hbad := h4
          refine RO.nil ?_
          refine Runs.condT rfl ?_
          refine Runs.has [(3, .ref 1 0), (4, .ref 2 0), (5, .d (.int _ _)), (6, .ref 3 0)] ⟨rfl, rfl, rfl, rfl, trivial⟩ ?_
          refine Runs.rseq ?_
          refine RO.opv (v' := .d (encCl _)) (opv_build_cl0 rfl rfl) rfl ?_
          refine RO.op0n (O' := [_, _, _, _]) (opv_store_cl rfl rfl rfl rfl) rfl ?_
          refine RO.opv (v' := .d (.int _ _)) (opv_assign rfl) rfl ?_
          refine RO.nil ?_
          refine Runs.ret ?_
          refine thenQ_ret ?_
          refine EndQ.ct (v := .d (encCl _)) (v' := .d (.int _ _)) (.inr rfl) rfl rfl rfl (by exact take_cl _) rfl 0 (by exact Nat.le_refl _) (by exact Nat.zero_le _) trivial trivial ⟨?_, rfl⟩
          rw [parse_range hc hk0 (by simp only [not_and]; intros; omega)]; try rfl
        · try simp only [Z.a, Z.b, Z.c, Z.d, Z.e, Z.f, Z.g, Z.h, Z.i, Z.j, Z.k, Z.l, Z.m] at h4
          have hi3 : t.kids[0].num < ((l.n : Nat) : Int) := by omega
          refine RO.nil ?_
          refine Runs.condF rfl ?_
          refine Runs.skip ?_
          refine thenQ_normal ?_
          refine Runs.has [(3, .ref 1 0), (4, .ref 2 0), (5, .d (.int _ _)), (6, .ref 3 0)] ⟨rfl, rfl, rfl, rfl, trivial⟩ ?_
          refine Runs.seq ?_
          refine Runs.drawn (by kernel_rfl) [] [false, false, false, false, false, false, false, false, false, false, false] [false, false, false, false, false, false, false, false, false, true, false] (by decide +kernel) ?_
          refine RD.opv (v' := .ref 1 3) (opv_field_ref rfl rfl) rfl ?_
          refine RD.opv (v' := .d (.list (encs _))) (opv_load_ref rfl rfl rfl) rfl ?_
          refine RD.opv (v' := .d (.ptr _)) (opv_index_terms (i := 1) rfl rfl hk1) rfl ?_
          refine RD.opv (v' := .d (enc _)) (opv_load_pterm rfl) rfl ?_
          refine RD.opv (v' := .ref 3 1) (opv_field_ref rfl rfl) rfl ?_
          refine RD.opv (v' := .d (.int _ _)) (opv_load_ref rfl rfl rfl) rfl ?_
          refine RD.opv (opv_callF (rat_fn t.kids[1] t.kids[0].num (by omega)) rfl rfl rfl ⟨trivial, trivial, trivial⟩) rfl ?_
          refine RD.opv (v' := .d (encCl _)) (opv_extract rfl rfl) rfl ?_
          refine RD.opv (v' := .d (.int _ _)) (opv_extract rfl rfl) rfl ?_
          refine RD.op0n (O' := [_, _, _, _]) (opv_store_cl rfl rfl rfl rfl) rfl trivial ?_
          refine RD.opv (v' := .d (.int _ _)) (opv_assign rfl) rfl ?_
          refine RD.nil ?_
          refine thenQ_normal ?_
          refine Runs.ret ?_
          refine EndQ.ct (v := .d (encCl _)) (v' := .d (.int _ _)) (.inr rfl) rfl rfl rfl (by exact take_cl _) rfl 0 (by exact Nat.le_refl _) (by exact Nat.zero_le _) trivial trivial ⟨?_, rfl⟩
          rw [parse_in hc hk0 hk1 hi1 hi2 hi3]
theorem rnew_fn (M : List (List Bool)) (l : Lt) (hM : Mt M l) (ts : List Term) (hb : bulks ts ≤ 2 ^ 25) : Fn Try.prog 14 [.d (encR M), .d (.list (encs ts))] [] (.tup [.d (.list (encCls (allB (newB l ts).1))), .d (.int .i64 (newB l ts).2.1), .d (.int .i64 (newB l ts).2.2)]) [] := by
  have hL := bulks_len ts
  refine Does.run Try.func14 rfl Try.ntmps14 rfl fun K hK => ?_
  refine Runs.rseq ?_
  refine RO.opn (v' := .ref 0 0) (O' := [_]) (opv_box rfl rfl) rfl rfl ?_
  refine RO.opv (v' := .nil0) (opv_assign rfl) rfl ?_
  refine RO.opv (v' := .d (.int _ _)) (opv_assign rfl) rfl ?_
  refine RO.opv (v' := .d (.int _ _)) (opv_assign rfl) rfl ?_
  refine RO.nil ?_
  refine Runs.has [(1, .d (.list (encs _))), (2, .ref 0 0), (4, .nil0), (5, .d (.int _ _)), (6, .d (.int _ _))] ⟨rfl, rfl, rfl, rfl, rfl, trivial⟩ ?_
  refine Runs.seq ?_
  refine Runs.rseq ?_
  refine RO.opv (v' := .d (.list (encs _))) (opv_move rfl) rfl ?_
  refine RO.opv (v' := .d (.int _ _)) (opv_len_terms rfl) rfl ?_
  refine RO.opc (opv_bin rfl rfl rfl) (fun h1 => ?_) (fun h1 => ?_)
  · try simp only [Z.a, Z.b, Z.c, Z.d, Z.e, Z.f, Z.g, Z.h, Z.i, Z.j, Z.k, Z.l, Z.m] at h1
    have hbig := h1
    refine RO.nil ?_
    refine Runs.condT rfl ?_
    refine Runs.has [(1, .d (.list (encs _))), (2, .ref 0 0), (4, .nil0), (5, .d (.int _ _)), (6, .d (.int _ _))] ⟨rfl, rfl, rfl, rfl, rfl, trivial⟩ ?_
    refine Runs.rseq ?_
    refine RO.opv (v' := .nil0) (opv_assign rfl) rfl ?_
    refine RO.opv (v' := .d (.int _ _)) (opv_assign rfl) rfl ?_
    refine RO.opv (v' := .d (.int _ _)) (opv_assign rfl) rfl ?_
    refine RO.nil ?_
    refine Runs.nz 4 rfl ?_
    refine Runs.ret ?_
    refine thenQ_ret ?_
    refine EndQ.tmps3 (.inr rfl) rfl rfl rfl rfl 0 (by exact Nat.le_refl _) (by exact Nat.zero_le _) ⟨trivial, trivial, trivial, trivial⟩ ⟨?_, rfl⟩
    rw [newB_big (by omega)]; try rfl
  · try simp only [Z.a, Z.b, Z.c, Z.d, Z.e, Z.f, Z.g, Z.h, Z.i, Z.j, Z.k, Z.l, Z.m] at h1
    have hle := h1
    refine RO.nil ?_
    refine Runs.condF rfl ?_
    refine Runs.skip ?_
    refine thenQ_normal ?_
    refine Runs.has [(1, .d (.list (encs _))), (2, .ref 0 0), (4, .nil0), (5, .d (.int _ _)), (6, .d (.int _ _))] ⟨rfl, rfl, rfl, rfl, rfl, trivial⟩ ?_
    refine Runs.rseq ?_
    refine RO.opv (v' := .nil0) (opv_assign rfl) rfl ?_
    refine RO.nil ?_
    refine Runs.seq ?_
    refine Runs.adopt 7 76 10 rfl ?_
    refine Runs.rseq ?_
    refine RO.opv (v' := .d (.int _ _)) (opv_assign rfl) rfl ?_
    refine RO.nil ?_
    refine Runs.block ?_
    refine Runs.loopC (X := Nat) (fun i => i ≤ ts.length ∧ ∀ t ∈ ts.take i, (parseL l t).2 = 0) (fun i => ts.length - i) [(1, .d (.list (encs _))), (2, .ref 0 0)] (fun i => [(7, .own 1 (1 + i)), (8, .d (.int .i64 (i : Nat)))]) [_] (fun i => [.buf 76 10 (encCls (parsesT l (ts.take i))) (1 + i)]) (0) ⟨rfl, rfl, trivial⟩ ⟨rfl, rfl, trivial⟩ rfl ⟨Nat.zero_le _, fun t h => by simp at h⟩ fun i hi => ?_
    refine Runs.seq ?_
    refine Runs.rseq ?_
    refine RO.opv (v' := .d (.int _ _)) (opv_move rfl) rfl ?_
    refine RO.opv (v' := .d (.list (encs _))) (opv_move rfl) rfl ?_
    refine RO.opv (v' := .d (.int _ _)) (opv_len_terms rfl) rfl ?_
    refine RO.opc (opv_bin rfl rfl rfl) (fun h2 => ?_) (fun h2 => ?_)
    · try simp only [Z.a, Z.b, Z.c, Z.d, Z.e, Z.f, Z.g, Z.h, Z.i, Z.j, Z.k, Z.l, Z.m] at h2
      have hk : i < ts.length := by omega
      have hbi := bulks_mem (List.getElem_mem hk)
      refine RO.nil ?_
      refine Runs.condT rfl ?_
      refine Runs.skip ?_
      refine thenQ_normal ?_
      refine Runs.has [(1, .d (.list (encs _))), (2, .ref 0 0), (7, .own 1 _), (8, .d (.int _ _))] ⟨rfl, rfl, rfl, rfl, trivial⟩ ?_
      refine Runs.seq ?_
      refine Runs.block ?_
      refine Runs.seq ?_
      refine Runs.drawn (by kernel_rfl) [0] [true, true, true, true, true, true, true, true, true, false, false, false] [false, false, false, false, false, false, false, false, false, true, true, false] (by decide +kernel) ?_
      refine RD.opa (v' := .d (encR _)) (fun O' hkeep => opv_load_ref rfl (hkeep.1.trans rfl) rfl) rfl ?_
      refine RD.opa (v' := .d (.list (encs _))) (fun O' hkeep => opv_move rfl) rfl ?_
      refine RD.opa (v' := .d (.int _ _)) (fun O' hkeep => opv_move rfl) rfl ?_
      refine RD.opa (v' := .d (.ptr _)) (fun O' hkeep => opv_index_terms rfl rfl hk) rfl ?_
      refine RD.opa (v' := .d (enc _)) (fun O' hkeep => opv_load_pterm rfl) rfl ?_
      refine RD.opa (fun O' hkeep => opv_callF (rparse_fn M l hM ts[i] (by omega)) rfl rfl rfl (by exact ⟨trivial, trivial, trivial⟩)) rfl ?_
      refine RD.opa (fun O' hkeep => opv_move rfl) rfl ?_
      refine RD.opa (v' := .d (encCl _)) (fun O' hkeep => opv_extract rfl rfl) rfl ?_
      refine RD.opa (v' := .d (.int _ _)) (fun O' hkeep => opv_extract rfl rfl) rfl ?_
      refine RD.opn (v' := .ref 2 0) (O' := [_, _, _]) (opv_alloc) rfl rfl ⟨rfl, trivial⟩ ?_
      refine RD.op0n (O' := [_, _, _]) (opv_store_cl rfl rfl rfl rfl) rfl ⟨rfl, trivial⟩ ?_
      refine RD.opv (v' := .d (.int _ _)) (opv_assign rfl) rfl ?_
      refine RD.nil ?_
      refine thenQ_normal ?_
      refine Runs.has [(1, .d (.list (encs _))), (2, .ref 0 0), (7, .own 1 _), (8, .d (.int _ _)), (9, .ref 2 0), (10, .d (.int _ _))] ⟨rfl, rfl, rfl, rfl, rfl, rfl, trivial⟩ ?_
      refine Runs.seq ?_
      refine Runs.rseq ?_
      refine RO.opv (v' := .d (.int _ _)) (opv_move rfl) rfl ?_
      refine RO.opc (opv_bin rfl rfl rfl) (fun h3 => ?_) (fun h3 => ?_)
      · try simp only [Z.a, Z.b, Z.c, Z.d, Z.e, Z.f, Z.g, Z.h, Z.i, Z.j, Z.k, Z.l, Z.m] at h3
        have he := h3
        refine RO.nil ?_
        refine Runs.condT rfl ?_
        refine Runs.has [(1, .d (.list (encs _))), (2, .ref 0 0), (7, .own 1 _), (8, .d (.int _ _)), (9, .ref 2 0), (10, .d (.int _ _))] ⟨rfl, rfl, rfl, rfl, rfl, rfl, trivial⟩ ?_
        refine Runs.rseq ?_
        refine RO.opv (v' := .d (.int _ _)) (opv_move rfl) rfl ?_
        refine RO.opv (v' := .d (.int _ _)) (opv_move rfl) rfl ?_
        refine RO.opv (v' := .nil0) (opv_assign rfl) rfl ?_
        refine RO.opv (v' := .d (.int _ _)) (opv_assign rfl) rfl ?_
        refine RO.opv (v' := .d (.int _ _)) (opv_assign rfl) rfl ?_
        refine RO.nil ?_
        refine Runs.nz 4 rfl ?_
        refine Runs.ret ?_
        refine thenQ_ret ?_
        refine blockQ_ret ?_
        refine thenQ_ret ?_
        refine thenQ_ret ?_
        refine blockQ_ret ?_
        refine thenQ_ret ?_
        refine EndQ.tmps3 (.inr rfl) rfl rfl rfl rfl 0 (by exact Nat.le_refl _) (by exact Nat.zero_le _) ⟨trivial, trivial, trivial, trivial⟩ ⟨?_, rfl⟩
        rw [newB_bad (by omega) hk hi.2 he]; try rfl
      · try simp only [Z.a, Z.b, Z.c, Z.d, Z.e, Z.f, Z.g, Z.h, Z.i, Z.j, Z.k, Z.l, Z.m] at h3
        have he := h3
        refine RO.nil ?_
        refine Runs.condF rfl ?_
        refine Runs.skip ?_
        refine thenQ_normal ?_
        refine Runs.has [(1, .d (.list (encs _))), (2, .ref 0 0), (7, .own 1 _), (8, .d (.int _ _)), (9, .ref 2 0)] ⟨rfl, rfl, rfl, rfl, rfl, trivial⟩ ?_
        refine Runs.region ?_
        refine RO.opv (v' := .own 1 _) (opv_move rfl) rfl ?_
        refine RO.opv (v' := .d (encCl _)) (opv_load_cl rfl rfl) rfl ?_
        refine RO.opv (v' := .d (.list (encCls _))) (opv_bs_cl rfl) rfl ?_
        refine RO.opn (v' := .own 1 _) (O' := [_, _, _]) (opv_append_cls rfl rfl rfl (by rw [parsesT_len]; simp; omega)) rfl rfl ?_
        refine RO.opv (v' := .own 1 _) (opv_assign rfl) rfl ?_
        refine RO.nil ?_
        refine blockQ_normal ?_
        refine thenQ_normal ?_
        refine Runs.has [(1, .d (.list (encs _))), (2, .ref 0 0), (7, .own 1 _), (8, .d (.int _ _))] ⟨rfl, rfl, rfl, rfl, trivial⟩ ?_
        refine Runs.region ?_
        refine RO.opv (v' := .d (.int _ _)) (opv_move rfl) rfl ?_
        refine RO.opv (v' := .d (.int _ _)) (opv_bin rfl rfl rfl) rfl ?_
        refine RO.opv (v' := .d (.int _ _)) (opv_assign rfl) rfl ?_
        refine RO.nil ?_
        refine thenQ_normal ?_
        refine ⟨i + 1, 2, (by rw [hK]; exact Nat.le_of_ble_eq_true rfl), ⟨rfl, rfl, trivial⟩, ⟨?_, ?_, trivial⟩, ?_, ?_, ?_⟩
        · rfl
        · refine int_eq ?_; rw [wrap64 (by omega) (by omega)]; omega
        · rw [parsesT_take hk]; try rfl
        · exact ⟨by omega, ok_snoc hk hi.2 he⟩
        · omega
    · try simp only [Z.a, Z.b, Z.c, Z.d, Z.e, Z.f, Z.g, Z.h, Z.i, Z.j, Z.k, Z.l, Z.m] at h2
      have hk : i = ts.length := by omega
      refine RO.nil ?_
      refine Runs.condF rfl ?_
      refine Runs.exit ?_
      refine thenQ_exit ?_
      refine thenQ_exit ?_
      refine blockQ_here ?_
      refine thenQ_normal ?_
      refine Runs.has [(7, .own 1 _)] ⟨rfl, trivial⟩ ?_
      refine Runs.shut 7 rfl rfl ?_
      refine Runs.rseq ?_
      refine RO.opv (v' := .d (.list (encCls _))) (opv_move rfl) rfl ?_
      refine RO.opv (v' := .d (.list (encCls _))) (opv_assign rfl) rfl ?_
      refine RO.opv (v' := .d (.int _ _)) (opv_assign rfl) rfl ?_
      refine RO.opv (v' := .d (.int _ _)) (opv_assign rfl) rfl ?_
      refine RO.nil ?_
      refine Runs.ret ?_
      refine EndQ.tmps3 (.inr rfl) rfl rfl rfl rfl 0 (by exact Nat.le_refl _) (by exact Nat.zero_le _) ⟨trivial, trivial, trivial, trivial⟩ ⟨?_, rfl⟩
      have hall := hi.2; rw [hk, List.take_length] at hall
      rw [newB_ok (by omega) hall, hk, List.take_length]; try rfl
theorem rtop_fn (M : List (List Bool)) (l : Lt) (hM : Mt M l) (cs : List Cl) (hc : cs.length ≤ 2 ^ 20) (hs : ∀ c ∈ cs, c.small (2 ^ 30)) : Fn Try.prog 44 [.d (encR M), .d (.list (encCls cs))] [] (.d (.int .i64 (rtop l cs))) [] := by
  refine Does.run Try.func44 rfl Try.ntmps44 rfl fun K hK => ?_
  refine Runs.rseq ?_
  refine RO.opn (v' := .ref 0 0) (O' := [_]) (opv_box rfl rfl) rfl rfl ?_
  refine RO.opv (v' := .d (.int _ _)) (opv_assign rfl) rfl ?_
  refine RO.nil ?_
  refine Runs.has [(1, .d (.list (encCls _))), (2, .ref 0 0), (4, .d (.int _ _))] ⟨rfl, rfl, rfl, trivial⟩ ?_
  refine Runs.rseq ?_
  refine RO.opv (v' := .d (encR _)) (opv_load_ref rfl rfl rfl) rfl ?_
  refine RO.opv (v' := .d (.int _ _)) (opv_callF (mbot_fn M l hM) rfl rfl rfl trivial) rfl ?_
  refine RO.opv (v' := .d (.int _ _)) (opv_assign rfl) rfl ?_
  refine RO.nil ?_
  refine Runs.has [(1, .d (.list (encCls _))), (2, .ref 0 0), (4, .d (.int _ _)), (5, .d (.int _ _))] ⟨rfl, rfl, rfl, rfl, trivial⟩ ?_
  refine Runs.seq ?_
  refine Runs.rseq ?_
  refine RO.opv (v' := .d (.int _ _)) (opv_assign rfl) rfl ?_
  refine RO.nil ?_
  refine Runs.block ?_
  refine Runs.loopC (X := Nat) (fun i => i ≤ cs.length) (fun i => cs.length - i) [(1, .d (.list (encCls _))), (2, .ref 0 0), (4, .d (.int _ _))] (fun i => [(5, .d (.int .i64 ((cs.take i).foldl (rtopStep l) l.bottom))), (6, .d (.int .i64 (i : Nat)))]) [_] (fun i => []) (0) ⟨rfl, rfl, rfl, trivial⟩ ⟨rfl, rfl, trivial⟩ rfl (by omega) fun i hi => ?_
  refine Runs.seq ?_
  refine Runs.rseq ?_
  refine RO.opv (v' := .d (.int _ _)) (opv_move rfl) rfl ?_
  refine RO.opv (v' := .d (.list (encCls _))) (opv_move rfl) rfl ?_
  refine RO.opv (v' := .d (.int _ _)) (opv_len_cls rfl) rfl ?_
  refine RO.opc (opv_bin rfl rfl rfl) (fun h1 => ?_) (fun h1 => ?_)
  · try simp only [Z.a, Z.b, Z.c, Z.d, Z.e, Z.f, Z.g, Z.h, Z.i, Z.j, Z.k, Z.l, Z.m] at h1
    have hk : i < cs.length := by omega
    refine RO.nil ?_
    refine Runs.condT rfl ?_
    refine Runs.skip ?_
    refine thenQ_normal ?_
    refine Runs.has [(1, .d (.list (encCls _))), (2, .ref 0 0), (4, .d (.int _ _)), (5, .d (.int _ _)), (6, .d (.int _ _))] ⟨rfl, rfl, rfl, rfl, rfl, trivial⟩ ?_
    refine Runs.seq ?_
    refine Runs.block ?_
    refine Runs.seq ?_
    refine Runs.drawn (by kernel_rfl) [] [false, false, false, false, false, false, false, false, false] [false, false, false, false, false, false, false, false, false] (by decide +kernel) ?_
    refine RD.opv (v' := .d (encR _)) (opv_load_ref rfl rfl rfl) rfl ?_
    refine RD.opv (v' := .d (.int _ _)) (opv_move rfl) rfl ?_
    refine RD.opv (v' := .d (.list (encCls _))) (opv_move rfl) rfl ?_
    refine RD.opv (v' := .d (.int _ _)) (opv_move rfl) rfl ?_
    refine RD.opv (v' := .d (.ptr _)) (opv_index_cls rfl rfl hk) rfl ?_
    refine RD.opv (v' := .d (.ptr _)) (opv_field_ptr rfl) rfl ?_
    refine RD.opv (v' := .d (.int _ _)) (opv_load_ptr rfl rfl) rfl ?_
    refine RD.opv (v' := .d (.int _ _)) (opv_callF (mjoin_fn M l hM _ _) rfl rfl rfl trivial) rfl ?_
    refine RD.opv (v' := .d (.int _ _)) (opv_assign rfl) rfl ?_
    refine RD.nil ?_
    refine thenQ_normal ?_
    refine Runs.has [(1, .d (.list (encCls _))), (2, .ref 0 0), (4, .d (.int _ _)), (5, .d (.int _ _)), (6, .d (.int _ _))] ⟨rfl, rfl, rfl, rfl, rfl, trivial⟩ ?_
    refine Runs.seq ?_
    refine Runs.drawn (by kernel_rfl) [] [false, false, false, false, false, false, false, false, false, false, false] [false, false, false, false, false, false, false, false, false, false, false] (by decide +kernel) ?_
    refine RD.opv (v' := .d (encR _)) (opv_load_ref rfl rfl rfl) rfl ?_
    refine RD.opv (v' := .d (.int _ _)) (opv_move rfl) rfl ?_
    refine RD.opv (v' := .d (encR _)) (opv_load_ref rfl rfl rfl) rfl ?_
    refine RD.opv (v' := .d (.list (encCls _))) (opv_move rfl) rfl ?_
    refine RD.opv (v' := .d (.int _ _)) (opv_move rfl) rfl ?_
    refine RD.opv (v' := .d (.ptr _)) (opv_index_cls rfl rfl hk) rfl ?_
    refine RD.opv (v' := .d (.ptr _)) (opv_field_ptr rfl) rfl ?_
    refine RD.opv (v' := .d (enc _)) (opv_load_pt rfl rfl) rfl ?_
    refine RD.opv (v' := .d (.int _ _)) (opv_callF (rsjoin_fn M l hM cs[i].head (mem_all hs hk).1) rfl rfl rfl trivial) rfl ?_
    refine RD.opv (v' := .d (.int _ _)) (opv_callF (mjoin_fn M l hM _ _) rfl rfl rfl trivial) rfl ?_
    refine RD.opv (v' := .d (.int _ _)) (opv_assign rfl) rfl ?_
    refine RD.nil ?_
    refine thenQ_normal ?_
    refine Runs.has [(1, .d (.list (encCls _))), (2, .ref 0 0), (4, .d (.int _ _)), (5, .d (.int _ _)), (6, .d (.int _ _))] ⟨rfl, rfl, rfl, rfl, rfl, trivial⟩ ?_
    refine Runs.drawn (by kernel_rfl) [] [false, false, false, false, false, false, false, false, false, false, false] [false, false, false, false, false, false, false, false, false, false, false] (by decide +kernel) ?_
    refine RD.opv (v' := .d (encR _)) (opv_load_ref rfl rfl rfl) rfl ?_
    refine RD.opv (v' := .d (.int _ _)) (opv_move rfl) rfl ?_
    refine RD.opv (v' := .d (encR _)) (opv_load_ref rfl rfl rfl) rfl ?_
    refine RD.opv (v' := .d (.list (encCls _))) (opv_move rfl) rfl ?_
    refine RD.opv (v' := .d (.int _ _)) (opv_move rfl) rfl ?_
    refine RD.opv (v' := .d (.ptr _)) (opv_index_cls rfl rfl hk) rfl ?_
    refine RD.opv (v' := .d (.ptr _)) (opv_field_ptr rfl) rfl ?_
    refine RD.opv (v' := .d (enc _)) (opv_load_pt rfl rfl) rfl ?_
    refine RD.opv (v' := .d (.int _ _)) (opv_callF (rsjoin_fn M l hM cs[i].body (mem_all hs hk).2) rfl rfl rfl trivial) rfl ?_
    refine RD.opv (v' := .d (.int _ _)) (opv_callF (mjoin_fn M l hM _ _) rfl rfl rfl trivial) rfl ?_
    refine RD.opv (v' := .d (.int _ _)) (opv_assign rfl) rfl ?_
    refine RD.nil ?_
    refine blockQ_normal ?_
    refine thenQ_normal ?_
    refine Runs.has [(1, .d (.list (encCls _))), (2, .ref 0 0), (4, .d (.int _ _)), (5, .d (.int _ _)), (6, .d (.int _ _))] ⟨rfl, rfl, rfl, rfl, rfl, trivial⟩ ?_
    refine Runs.region ?_
    refine RO.opv (v' := .d (.int _ _)) (opv_move rfl) rfl ?_
    refine RO.opv (v' := .d (.int _ _)) (opv_bin rfl rfl rfl) rfl ?_
    refine RO.opv (v' := .d (.int _ _)) (opv_assign rfl) rfl ?_
    refine RO.nil ?_
    refine thenQ_normal ?_
    refine ⟨i + 1, 1, (by rw [hK]; exact Nat.le_of_ble_eq_true rfl), ⟨rfl, rfl, rfl, trivial⟩, ⟨?_, ?_, trivial⟩, rfl, ?_, ?_⟩
    · refine int_eq ?_; rw [rtop_take l hk]; try rfl
    · refine int_eq ?_; rw [wrap64 (by omega) (by omega)]; omega
    · omega
    · omega
  · try simp only [Z.a, Z.b, Z.c, Z.d, Z.e, Z.f, Z.g, Z.h, Z.i, Z.j, Z.k, Z.l, Z.m] at h1
    have hk : i = cs.length := by omega
    refine RO.nil ?_
    refine Runs.condF rfl ?_
    refine Runs.exit ?_
    refine thenQ_exit ?_
    refine thenQ_exit ?_
    refine blockQ_here ?_
    refine thenQ_normal ?_
    refine Runs.has [(4, .d (.int _ _)), (5, .d (.int _ _))] ⟨rfl, rfl, trivial⟩ ?_
    refine Runs.rseq ?_
    refine RO.opv (v' := .d (.int _ _)) (opv_move rfl) rfl ?_
    refine RO.opv (v' := .d (.int _ _)) (opv_assign rfl) rfl ?_
    refine RO.nil ?_
    refine Runs.ret ?_
    refine EndQ.tmp (.inr rfl) rfl rfl 0 (by exact Nat.le_refl _) (by exact Nat.zero_le _) trivial ⟨?_, rfl⟩
    refine int_eq ?_; rw [hk, List.take_length]; try rfl
end Go.Proofs.Ytohncglpjiplaaa.AM
