import Derived.Test.YtohncglpjiplaaaTm
namespace Go.Proofs.Ytohncglpjiplaaa.AM
open Go
set_option linter.unusedVariables false
set_option linter.unusedSimpArgs false
theorem rsize_aux  : ∀ (m : Nat) (t : Term), t.size ≤ m → t.bulk ≤ 2 ^ 30 → Fn Try.prog 33 [.d (enc t)] [] (.d (.int .i64 (t.size : Nat))) [] := by
  intro m
  induction m with
  | zero => intro t h; have := t.size_kids; omega
  | succ m ih =>
  intro t hm hb
  have hS := t.size_kids
  have hU := t.bulk_kids
  have hL := bulks_len t.kids
  have hY := sizes_bulks t.kids
  refine Does.run Try.func33 rfl Try.ntmps33 rfl fun K hK => ?_
  refine Runs.rseq ?_
  refine RO.opn (v' := .ref 0 0) (O' := [_]) (opv_box_term rfl) rfl rfl ?_
  refine RO.opv (v' := .d (.int _ _)) (opv_assign rfl) rfl ?_
  refine RO.nil ?_
  refine Runs.has [(1, .ref 0 0), (2, .d (.int _ _))] ⟨rfl, rfl, trivial⟩ ?_
  refine Runs.rseq ?_
  refine RO.opv (v' := .d (.int _ _)) (opv_assign rfl) rfl ?_
  refine RO.nil ?_
  refine Runs.seq ?_
  refine Runs.rseq ?_
  refine RO.opv (v' := .d (.int _ _)) (opv_assign rfl) rfl ?_
  refine RO.nil ?_
  refine Runs.block ?_
  refine Runs.loopC (X := Nat) (fun i => i ≤ t.kids.length) (fun i => t.kids.length - i) [(1, .ref 0 0), (2, .d (.int _ _))] (fun i => [(3, .d (.int .i64 ((1 + sizes (t.kids.take i) : Nat) : Int))), (4, .d (.int .i64 (i : Nat)))]) [_] (fun i => []) (0) ⟨rfl, rfl, trivial⟩ ⟨rfl, rfl, trivial⟩ rfl (by omega) fun i hi => ?_
  refine Runs.seq ?_
  refine Runs.rseq ?_
  refine RO.opv (v' := .d (.int _ _)) (opv_move rfl) rfl ?_
  refine RO.opv (v' := .ref 0 3) (opv_field_ref rfl rfl) rfl ?_
  refine RO.opv (v' := .d (.list (encs _))) (opv_load_ref rfl rfl rfl) rfl ?_
  refine RO.opv (v' := .d (.int _ _)) (opv_len_terms rfl) rfl ?_
  refine RO.opc (opv_bin rfl rfl rfl) (fun h1 => ?_) (fun h1 => ?_)
  · try simp only [Z.a, Z.b, Z.c, Z.d, Z.e, Z.f, Z.g, Z.h, Z.i, Z.j, Z.k, Z.l, Z.m] at h1
    have h1 : i < t.kids.length := by omega
    refine RO.nil ?_
    refine Runs.condT rfl ?_
    refine Runs.skip ?_
    refine thenQ_normal ?_
    refine Runs.has [(1, .ref 0 0), (2, .d (.int _ _)), (3, .d (.int _ _)), (4, .d (.int _ _))] ⟨rfl, rfl, rfl, rfl, trivial⟩ ?_
    refine Runs.seq ?_
    refine Runs.block ?_
    refine Runs.region ?_
    refine RO.opv (v' := .d (.int _ _)) (opv_move rfl) rfl ?_
    refine RO.opv (v' := .ref 0 3) (opv_field_ref rfl rfl) rfl ?_
    refine RO.opv (v' := .d (.list (encs _))) (opv_load_ref rfl rfl rfl) rfl ?_
    refine RO.opv (v' := .d (.int _ _)) (opv_move rfl) rfl ?_
    refine RO.opv (v' := .d (.ptr _)) (opv_index_terms rfl rfl (by omega)) rfl ?_
    refine RO.opv (v' := .d (enc _)) (opv_load_pterm rfl) rfl ?_
    refine RO.opv (v' := .d (.int _ _)) (opv_callF (ih t.kids[i] (by have := sizes_mem (List.getElem_mem h1); omega) (by have := bulks_mem (List.getElem_mem h1); omega)) rfl rfl rfl trivial) rfl ?_
    refine RO.opv (v' := .d (.int _ _)) (opv_bin rfl rfl rfl) rfl ?_
    refine RO.opv (v' := .d (.int _ _)) (opv_assign rfl) rfl ?_
    refine RO.nil ?_
    refine blockQ_normal ?_
    refine thenQ_normal ?_
    refine Runs.has [(1, .ref 0 0), (2, .d (.int _ _)), (3, .d (.int _ _)), (4, .d (.int _ _))] ⟨rfl, rfl, rfl, rfl, trivial⟩ ?_
    refine Runs.region ?_
    refine RO.opv (v' := .d (.int _ _)) (opv_move rfl) rfl ?_
    refine RO.opv (v' := .d (.int _ _)) (opv_bin rfl rfl rfl) rfl ?_
    refine RO.opv (v' := .d (.int _ _)) (opv_assign rfl) rfl ?_
    refine RO.nil ?_
    refine thenQ_normal ?_
    refine ⟨i+1, 1, (by rw [hK]; exact Nat.le_of_ble_eq_true rfl), ⟨rfl, rfl, trivial⟩, ⟨?_, ?_, trivial⟩, rfl, ?_, ?_⟩
    · refine int_eq ?_; have hs := sizes_take t.kids i t.kids[i] (by simp); have := sizes_take_le t.kids (i + 1); rw [wrap64 (by omega) (by omega)]; omega
    · refine int_eq ?_; rw [wrap64 (by omega) (by omega)]; omega
    · omega
    · omega
  · try simp only [Z.a, Z.b, Z.c, Z.d, Z.e, Z.f, Z.g, Z.h, Z.i, Z.j, Z.k, Z.l, Z.m] at h1
    have h1 : i = t.kids.length := by omega
    refine RO.nil ?_
    refine Runs.condF rfl ?_
    refine Runs.exit ?_
    refine thenQ_exit ?_
    refine thenQ_exit ?_
    refine blockQ_here ?_
    refine thenQ_normal ?_
    refine Runs.has [(2, .d (.int _ _)), (3, .d (.int _ _))] ⟨rfl, rfl, trivial⟩ ?_
    refine Runs.rseq ?_
    refine RO.opv (v' := .d (.int _ _)) (opv_move rfl) rfl ?_
    refine RO.opv (v' := .d (.int _ _)) (opv_assign rfl) rfl ?_
    refine RO.nil ?_
    refine Runs.ret ?_
    refine EndQ.tmp (.inr rfl) rfl rfl 0 (by exact Nat.le_refl _) (by exact Nat.zero_le _) trivial ⟨?_, rfl⟩
    refine int_eq ?_; subst h1; rw [List.take_length, hS]; omega
theorem rsize_fn (t : Term) (hb : t.bulk ≤ 2 ^ 30) : Fn Try.prog 33 [.d (enc t)] [] (.d (.int .i64 (t.size : Nat))) [] := rsize_aux t.size t (Nat.le_refl _) hb
theorem has_fn (l : List Int) (x : Int) (hl : l.length ≤ 2 ^ 30) : Fn Try.prog 93 [.d (.list (ints l)), .d (.int .i64 x)] [] (.d (.bool (decide (x ∈ l)))) [] := by
  refine Does.run Try.func93 rfl Try.ntmps93 rfl fun K hK => ?_
  refine Runs.rseq ?_
  refine RO.opv (v' := .d (.bool false)) (opv_assign rfl) rfl ?_
  refine RO.nil ?_
  refine Runs.seq ?_
  refine Runs.rseq ?_
  refine RO.opv (v' := .d (.int _ _)) (opv_assign rfl) rfl ?_
  refine RO.nil ?_
  refine Runs.block ?_
  refine Runs.loopC (X := Nat) (fun i => i ≤ l.length ∧ ∀ (j : Nat) (h : j < l.length), j < i → l[j] ≠ x) (fun i => l.length - i) [(0, .d (.list (ints _))), (1, .d (.int _ _))] (fun i => [(5, .d (.int .i64 (i : Nat)))]) [] (fun i => []) (0) ⟨rfl, rfl, trivial⟩ ⟨rfl, trivial⟩ rfl ⟨Nat.zero_le _, fun j h h0 => absurd h0 (Nat.not_lt_zero _)⟩ fun i hi => ?_
  refine Runs.seq ?_
  refine Runs.rseq ?_
  refine RO.opv (v' := .d (.int _ _)) (opv_move rfl) rfl ?_
  refine RO.opv (v' := .d (.list (ints _))) (opv_move rfl) rfl ?_
  refine RO.opv (v' := .d (.int _ _)) (opv_len_ints rfl) rfl ?_
  refine RO.opc (opv_bin rfl rfl rfl) (fun h1 => ?_) (fun h1 => ?_)
  · try simp only [Z.a, Z.b, Z.c, Z.d, Z.e, Z.f, Z.g, Z.h, Z.i, Z.j, Z.k, Z.l, Z.m] at h1
    have h1 : i < l.length := by omega
    refine RO.nil ?_
    refine Runs.condT rfl ?_
    refine Runs.skip ?_
    refine thenQ_normal ?_
    refine Runs.has [(0, .d (.list (ints _))), (1, .d (.int _ _)), (5, .d (.int _ _))] ⟨rfl, rfl, rfl, trivial⟩ ?_
    refine Runs.seq ?_
    refine Runs.block ?_
    refine Runs.rseq ?_
    refine RO.opv (v' := .d (.list (ints _))) (opv_move rfl) rfl ?_
    refine RO.opv (v' := .d (.int _ _)) (opv_move rfl) rfl ?_
    refine RO.opv (v' := .d (.ptr _)) (opv_index_ints rfl rfl (by omega)) rfl ?_
    refine RO.opv (v' := .d (.int _ _)) (opv_load_ptr rfl rfl) rfl ?_
    refine RO.opv (v' := .d (.int _ _)) (opv_move rfl) rfl ?_
    refine RO.opc (opv_bin rfl rfl rfl) (fun h2 => ?_) (fun h2 => ?_)
    · try simp only [Z.a, Z.b, Z.c, Z.d, Z.e, Z.f, Z.g, Z.h, Z.i, Z.j, Z.k, Z.l, Z.m] at h2
      refine RO.nil ?_
      refine Runs.condT rfl ?_
      refine Runs.has [(0, .d (.list (ints _))), (1, .d (.int _ _)), (5, .d (.int _ _))] ⟨rfl, rfl, rfl, trivial⟩ ?_
      refine Runs.rseq ?_
      refine RO.opv (v' := .d (.bool true)) (opv_assign rfl) rfl ?_
      refine RO.nil ?_
      refine Runs.ret ?_
      refine blockQ_ret ?_
      refine thenQ_ret ?_
      refine thenQ_ret ?_
      refine blockQ_ret ?_
      refine thenQ_ret ?_
      refine EndQ.tmp (.inr rfl) rfl rfl 0 (by exact Nat.le_refl _) (by exact Nat.zero_le _) trivial ⟨?_, rfl⟩
      refine bool_eq ?_; exact (decide_eq_true (h2 ▸ List.getElem_mem h1)).symm
    · try simp only [Z.a, Z.b, Z.c, Z.d, Z.e, Z.f, Z.g, Z.h, Z.i, Z.j, Z.k, Z.l, Z.m] at h2
      refine RO.nil ?_
      refine Runs.condF rfl ?_
      refine Runs.skip ?_
      refine blockQ_normal ?_
      refine thenQ_normal ?_
      refine Runs.has [(0, .d (.list (ints _))), (1, .d (.int _ _)), (5, .d (.int _ _))] ⟨rfl, rfl, rfl, trivial⟩ ?_
      refine Runs.region ?_
      refine RO.opv (v' := .d (.int _ _)) (opv_move rfl) rfl ?_
      refine RO.opv (v' := .d (.int _ _)) (opv_bin rfl rfl rfl) rfl ?_
      refine RO.opv (v' := .d (.int _ _)) (opv_assign rfl) rfl ?_
      refine RO.nil ?_
      refine thenQ_normal ?_
      refine ⟨i + 1, 0, (by rw [hK]; exact Nat.le_of_ble_eq_true rfl), ⟨rfl, rfl, trivial⟩, ⟨?_, trivial⟩, rfl, ?_, ?_⟩
      · refine int_eq ?_; rw [wrap64 (by omega) (by omega)]; omega
      · refine ⟨by omega, fun j hj hji => ?_⟩
        by_cases e : j = i
        · subst e; exact h2
        · exact hi.2 j hj (by omega)
      · omega
  · try simp only [Z.a, Z.b, Z.c, Z.d, Z.e, Z.f, Z.g, Z.h, Z.i, Z.j, Z.k, Z.l, Z.m] at h1
    have h1 : i = l.length := by omega
    refine RO.nil ?_
    refine Runs.condF rfl ?_
    refine Runs.exit ?_
    refine thenQ_exit ?_
    refine thenQ_exit ?_
    refine blockQ_here ?_
    refine thenQ_normal ?_
    refine Runs.has [] trivial ?_
    refine Runs.rseq ?_
    refine RO.opv (v' := .d (.bool false)) (opv_assign rfl) rfl ?_
    refine RO.nil ?_
    refine Runs.ret ?_
    refine EndQ.tmp (.inr rfl) rfl rfl 0 (by exact Nat.le_refl _) (by exact Nat.zero_le _) trivial ⟨?_, rfl⟩
    refine bool_eq ?_; exact (decide_eq_false (not_mem_of fun j hj => hi.2 j hj (by omega))).symm
theorem gather_aux  : ∀ (m : Nat) (t : Term) (l : List Int), t.size ≤ m → t.bulk ≤ 2 ^ 28 → l.length + t.size ≤ 2 ^ 28 → Fn Try.prog 91 [.d (.list (ints l)), .d (enc t)] [] (.d (.list (ints (t.parts.foldl addVar l)))) [] := by
  intro m
  induction m with
  | zero => intro t l h; have := t.size_kids; omega
  | succ m ih =>
  intro t l hm hb hl
  have hS := t.size_kids
  have hU := t.bulk_kids
  have hL := bulks_len t.kids
  refine Does.run Try.func91 rfl Try.ntmps91 rfl fun K hK => ?_
  refine Runs.rseq ?_
  refine RO.opn (v' := .ref 0 0) (O' := [_]) (opv_box_term rfl) rfl rfl ?_
  refine RO.opv (v' := .nil0) (opv_assign rfl) rfl ?_
  refine RO.nil ?_
  refine Runs.has [(0, .d (.list (ints _))), (3, .ref 0 0), (4, .nil0)] ⟨rfl, rfl, rfl, trivial⟩ ?_
  refine Runs.seq ?_
  refine Runs.rseq ?_
  refine RO.opv (v' := .ref 0 0) (opv_field_ref rfl rfl) rfl ?_
  refine RO.opv (v' := .d (.int _ _)) (opv_load_ref rfl rfl rfl) rfl ?_
  refine RO.opv (v' := .d (.bool _)) (opv_bin rfl rfl rfl) rfl ?_
  refine RO.opc (opv_move rfl) (fun h1 => ?_) (fun h1 => ?_)
  · try simp only [Z.a, Z.b, Z.c, Z.d, Z.e, Z.f, Z.g, Z.h, Z.i, Z.j, Z.k, Z.l, Z.m] at h1
    refine RO.opgv (v' := .d (.list (ints _))) rfl (opv_move rfl) rfl ?_
    refine RO.opgv (v' := .ref 0 1) rfl (opv_field_ref rfl rfl) rfl ?_
    refine RO.opgv (v' := .d (.int _ _)) rfl (opv_load_ref rfl rfl rfl) rfl ?_
    refine RO.opgv (v' := .d (.bool _)) rfl (opv_callF (has_fn l t.num (by omega)) rfl rfl rfl trivial) rfl ?_
    refine RO.opgv (v' := .d (.bool _)) rfl (opv_not rfl rfl) rfl ?_
    refine RO.opc (opv_pick rfl rfl) (fun h2 => ?_) (fun h2 => ?_)
    · try simp only [Z.a, Z.b, Z.c, Z.d, Z.e, Z.f, Z.g, Z.h, Z.i, Z.j, Z.k, Z.l, Z.m] at h2
      refine RO.nil ?_
      refine Runs.condT rfl ?_
      refine Runs.has [(0, .d (.list (ints _))), (3, .ref 0 0), (4, .nil0)] ⟨rfl, rfl, rfl, trivial⟩ ?_
      refine Runs.drawn (by kernel_rfl) [0] [false, false, false, true, true, true, false, false] [false, false, true, false, false, false, true, false] (by decide +kernel) ?_
      refine RD.opv (v' := .nil0) (opv_buildSlice0 rfl) rfl ?_
      refine RD.opv (v' := .d (.list (ints _))) (opv_move rfl) rfl ?_
      refine RD.opn (v' := .own 1 _) (O' := [_, _]) (opv_append_ints0 rfl rfl (by omega)) rfl rfl ⟨rfl, trivial⟩ ?_
      refine RD.opa (v' := .ref 0 1) (fun O' hkeep => opv_field_ref rfl (hkeep.1.trans rfl)) rfl ?_
      refine RD.opa (v' := .d (.int _ _)) (fun O' hkeep => opv_load_ref rfl (hkeep.1.trans rfl) rfl) rfl ?_
      refine RD.opa (v' := .d (.list (ints _))) (fun O' hkeep => opv_bs_int1 rfl ) rfl ?_
      refine RD.opn (v' := .own 1 _) (O' := [_, _]) (opv_append_ints rfl rfl rfl (by simp; omega)) rfl rfl ⟨rfl, trivial⟩ ?_
      refine RD.opv (v' := .own 1 _) (opv_assign rfl) rfl ?_
      refine RD.nil ?_
      refine thenQ_normal ?_
      refine Runs.has [(0, .own 1 _), (3, .ref 0 0), (4, .nil0)] ⟨rfl, rfl, rfl, trivial⟩ ?_
      refine Runs.seq ?_
      refine Runs.shut 0 rfl rfl ?_
      refine Runs.rseq ?_
      refine RO.opv (v' := .d (.int _ _)) (opv_assign rfl) rfl ?_
      refine RO.nil ?_
      refine Runs.block ?_
      refine Runs.loopC (X := (Nat × List Int)) (fun x => x.1 ≤ t.kids.length ∧ (partss (t.kids.drop x.1)).foldl addVar x.2 = t.parts.foldl addVar l ∧ x.2.length + sizes (t.kids.drop x.1) ≤ 2 ^ 28) (fun x => t.kids.length - x.1) [(3, .ref 0 0), (4, .nil0)] (fun x => [(0, .d (.list (ints x.2))), (5, .d (.int .i64 (x.1 : Nat)))]) [_, _] (fun x => []) (((0 : Nat), addVar l t)) ⟨rfl, rfl, trivial⟩ ⟨(by first | exact ints_eq (if_pos ⟨h1, by simpa using h2⟩).symm | exact ints_eq (if_neg (fun hh => hh.2 (by simpa using h2))).symm | exact ints_eq (if_neg (fun hh => h1 hh.1)).symm), rfl, trivial⟩ rfl ⟨Nat.zero_le _, by rw [List.drop_zero, t.parts_kids, List.foldl_cons], by have := addVar_len l t; show (addVar l t).length + _ ≤ _; simp only [List.drop_zero]; omega⟩ fun x hi => ?_
      refine Runs.seq ?_
      refine Runs.rseq ?_
      refine RO.opv (v' := .d (.int _ _)) (opv_move rfl) rfl ?_
      refine RO.opv (v' := .ref 0 3) (opv_field_ref rfl rfl) rfl ?_
      refine RO.opv (v' := .d (.list (encs _))) (opv_load_ref rfl rfl rfl) rfl ?_
      refine RO.opv (v' := .d (.int _ _)) (opv_len_terms rfl) rfl ?_
      refine RO.opc (opv_bin rfl rfl rfl) (fun h3 => ?_) (fun h3 => ?_)
      · try simp only [Z.a, Z.b, Z.c, Z.d, Z.e, Z.f, Z.g, Z.h, Z.i, Z.j, Z.k, Z.l, Z.m] at h3
        have hk : x.1 < t.kids.length := by omega
        refine RO.nil ?_
        refine Runs.condT rfl ?_
        refine Runs.skip ?_
        refine thenQ_normal ?_
        refine Runs.has [(0, .d (.list (ints _))), (3, .ref 0 0), (4, .nil0), (5, .d (.int _ _))] ⟨rfl, rfl, rfl, rfl, trivial⟩ ?_
        refine Runs.seq ?_
        refine Runs.block ?_
        refine Runs.region ?_
        refine RO.opv (v' := .d (.list (ints _))) (opv_move rfl) rfl ?_
        refine RO.opv (v' := .ref 0 3) (opv_field_ref rfl rfl) rfl ?_
        refine RO.opv (v' := .d (.list (encs _))) (opv_load_ref rfl rfl rfl) rfl ?_
        refine RO.opv (v' := .d (.int _ _)) (opv_move rfl) rfl ?_
        refine RO.opv (v' := .d (.ptr _)) (opv_index_terms rfl rfl (by omega)) rfl ?_
        refine RO.opv (v' := .d (enc _)) (opv_load_pterm rfl) rfl ?_
        refine RO.opv (v' := .d (.list (ints _))) (opv_callF (ih t.kids[x.1] x.2 (by have := sizes_mem (List.getElem_mem hk); omega) (by have := bulks_mem (List.getElem_mem hk); omega) (by have := hi.2.2; rw [drop_get hk, sizes] at this; omega)) rfl rfl rfl trivial) rfl ?_
        refine RO.opv (v' := .d (.list (ints _))) (opv_assign rfl) rfl ?_
        refine RO.nil ?_
        refine blockQ_normal ?_
        refine thenQ_normal ?_
        refine Runs.has [(0, .d (.list (ints _))), (3, .ref 0 0), (4, .nil0), (5, .d (.int _ _))] ⟨rfl, rfl, rfl, rfl, trivial⟩ ?_
        refine Runs.region ?_
        refine RO.opv (v' := .d (.int _ _)) (opv_move rfl) rfl ?_
        refine RO.opv (v' := .d (.int _ _)) (opv_bin rfl rfl rfl) rfl ?_
        refine RO.opv (v' := .d (.int _ _)) (opv_assign rfl) rfl ?_
        refine RO.nil ?_
        refine thenQ_normal ?_
        refine ⟨(x.1 + 1, t.kids[x.1].parts.foldl addVar x.2), 2, (by rw [hK]; exact Nat.le_of_ble_eq_true rfl), ⟨rfl, rfl, trivial⟩, ⟨?_, ?_, trivial⟩, rfl, ?_, ?_⟩
        · rfl
        · refine int_eq ?_; rw [wrap64 (by omega) (by omega)]; omega
        · refine ⟨by show x.1 + 1 ≤ _; omega, ?_, ?_⟩
          · rw [← hi.2.1, drop_get hk, partss, List.foldl_append]
          · have h9 := hi.2.2; have h8 := vars_len t.kids[x.1].parts x.2; rw [parts_size] at h8; rw [drop_get hk, sizes] at h9; show (List.foldl addVar x.2 t.kids[x.1].parts).length + sizes (t.kids.drop (x.1 + 1)) ≤ 2 ^ 28; omega
        · show t.kids.length - (x.1 + 1) < _; omega
      · try simp only [Z.a, Z.b, Z.c, Z.d, Z.e, Z.f, Z.g, Z.h, Z.i, Z.j, Z.k, Z.l, Z.m] at h3
        have hk : x.1 = t.kids.length := by omega
        refine RO.nil ?_
        refine Runs.condF rfl ?_
        refine Runs.exit ?_
        refine thenQ_exit ?_
        refine thenQ_exit ?_
        refine blockQ_here ?_
        refine thenQ_normal ?_
        refine Runs.has [(0, .d (.list (ints _))), (4, .nil0)] ⟨rfl, rfl, trivial⟩ ?_
        refine Runs.rseq ?_
        refine RO.opv (v' := .d (.list (ints _))) (opv_move rfl) rfl ?_
        refine RO.opv (v' := .d (.list (ints _))) (opv_assign rfl) rfl ?_
        refine RO.nil ?_
        refine Runs.ret ?_
        refine EndQ.tmp (.inr rfl) rfl rfl 0 (by exact Nat.le_refl _) (by exact Nat.zero_le _) trivial ⟨?_, rfl⟩
        refine ints_eq ?_; rw [← hi.2.1, hk, List.drop_length]; rfl
    · try simp only [Z.a, Z.b, Z.c, Z.d, Z.e, Z.f, Z.g, Z.h, Z.i, Z.j, Z.k, Z.l, Z.m] at h2
      refine RO.nil ?_
      refine Runs.condF rfl ?_
      refine Runs.skip ?_
      refine thenQ_normal ?_
      refine Runs.has [(0, .d (.list (ints _))), (3, .ref 0 0), (4, .nil0)] ⟨rfl, rfl, rfl, trivial⟩ ?_
      refine Runs.seq ?_
      refine Runs.rseq ?_
      refine RO.opv (v' := .d (.int _ _)) (opv_assign rfl) rfl ?_
      refine RO.nil ?_
      refine Runs.block ?_
      refine Runs.loopC (X := (Nat × List Int)) (fun x => x.1 ≤ t.kids.length ∧ (partss (t.kids.drop x.1)).foldl addVar x.2 = t.parts.foldl addVar l ∧ x.2.length + sizes (t.kids.drop x.1) ≤ 2 ^ 28) (fun x => t.kids.length - x.1) [(3, .ref 0 0), (4, .nil0)] (fun x => [(0, .d (.list (ints x.2))), (5, .d (.int .i64 (x.1 : Nat)))]) [_] (fun x => []) (((0 : Nat), addVar l t)) ⟨rfl, rfl, trivial⟩ ⟨(by first | exact ints_eq (if_pos ⟨h1, by simpa using h2⟩).symm | exact ints_eq (if_neg (fun hh => hh.2 (by simpa using h2))).symm | exact ints_eq (if_neg (fun hh => h1 hh.1)).symm), rfl, trivial⟩ rfl ⟨Nat.zero_le _, by rw [List.drop_zero, t.parts_kids, List.foldl_cons], by have := addVar_len l t; show (addVar l t).length + _ ≤ _; simp only [List.drop_zero]; omega⟩ fun x hi => ?_
      refine Runs.seq ?_
      refine Runs.rseq ?_
      refine RO.opv (v' := .d (.int _ _)) (opv_move rfl) rfl ?_
      refine RO.opv (v' := .ref 0 3) (opv_field_ref rfl rfl) rfl ?_
      refine RO.opv (v' := .d (.list (encs _))) (opv_load_ref rfl rfl rfl) rfl ?_
      refine RO.opv (v' := .d (.int _ _)) (opv_len_terms rfl) rfl ?_
      refine RO.opc (opv_bin rfl rfl rfl) (fun h4 => ?_) (fun h4 => ?_)
      · try simp only [Z.a, Z.b, Z.c, Z.d, Z.e, Z.f, Z.g, Z.h, Z.i, Z.j, Z.k, Z.l, Z.m] at h4
        have hk : x.1 < t.kids.length := by omega
        refine RO.nil ?_
        refine Runs.condT rfl ?_
        refine Runs.skip ?_
        refine thenQ_normal ?_
        refine Runs.has [(0, .d (.list (ints _))), (3, .ref 0 0), (4, .nil0), (5, .d (.int _ _))] ⟨rfl, rfl, rfl, rfl, trivial⟩ ?_
        refine Runs.seq ?_
        refine Runs.block ?_
        refine Runs.region ?_
        refine RO.opv (v' := .d (.list (ints _))) (opv_move rfl) rfl ?_
        refine RO.opv (v' := .ref 0 3) (opv_field_ref rfl rfl) rfl ?_
        refine RO.opv (v' := .d (.list (encs _))) (opv_load_ref rfl rfl rfl) rfl ?_
        refine RO.opv (v' := .d (.int _ _)) (opv_move rfl) rfl ?_
        refine RO.opv (v' := .d (.ptr _)) (opv_index_terms rfl rfl (by omega)) rfl ?_
        refine RO.opv (v' := .d (enc _)) (opv_load_pterm rfl) rfl ?_
        refine RO.opv (v' := .d (.list (ints _))) (opv_callF (ih t.kids[x.1] x.2 (by have := sizes_mem (List.getElem_mem hk); omega) (by have := bulks_mem (List.getElem_mem hk); omega) (by have := hi.2.2; rw [drop_get hk, sizes] at this; omega)) rfl rfl rfl trivial) rfl ?_
        refine RO.opv (v' := .d (.list (ints _))) (opv_assign rfl) rfl ?_
        refine RO.nil ?_
        refine blockQ_normal ?_
        refine thenQ_normal ?_
        refine Runs.has [(0, .d (.list (ints _))), (3, .ref 0 0), (4, .nil0), (5, .d (.int _ _))] ⟨rfl, rfl, rfl, rfl, trivial⟩ ?_
        refine Runs.region ?_
        refine RO.opv (v' := .d (.int _ _)) (opv_move rfl) rfl ?_
        refine RO.opv (v' := .d (.int _ _)) (opv_bin rfl rfl rfl) rfl ?_
        refine RO.opv (v' := .d (.int _ _)) (opv_assign rfl) rfl ?_
        refine RO.nil ?_
        refine thenQ_normal ?_
        refine ⟨(x.1 + 1, t.kids[x.1].parts.foldl addVar x.2), 1, (by rw [hK]; exact Nat.le_of_ble_eq_true rfl), ⟨rfl, rfl, trivial⟩, ⟨?_, ?_, trivial⟩, rfl, ?_, ?_⟩
        · rfl
        · refine int_eq ?_; rw [wrap64 (by omega) (by omega)]; omega
        · refine ⟨by show x.1 + 1 ≤ _; omega, ?_, ?_⟩
          · rw [← hi.2.1, drop_get hk, partss, List.foldl_append]
          · have h9 := hi.2.2; have h8 := vars_len t.kids[x.1].parts x.2; rw [parts_size] at h8; rw [drop_get hk, sizes] at h9; show (List.foldl addVar x.2 t.kids[x.1].parts).length + sizes (t.kids.drop (x.1 + 1)) ≤ 2 ^ 28; omega
        · show t.kids.length - (x.1 + 1) < _; omega
      · try simp only [Z.a, Z.b, Z.c, Z.d, Z.e, Z.f, Z.g, Z.h, Z.i, Z.j, Z.k, Z.l, Z.m] at h4
        have hk : x.1 = t.kids.length := by omega
        refine RO.nil ?_
        refine Runs.condF rfl ?_
        refine Runs.exit ?_
        refine thenQ_exit ?_
        refine thenQ_exit ?_
        refine blockQ_here ?_
        refine thenQ_normal ?_
        refine Runs.has [(0, .d (.list (ints _))), (4, .nil0)] ⟨rfl, rfl, trivial⟩ ?_
        refine Runs.rseq ?_
        refine RO.opv (v' := .d (.list (ints _))) (opv_move rfl) rfl ?_
        refine RO.opv (v' := .d (.list (ints _))) (opv_assign rfl) rfl ?_
        refine RO.nil ?_
        refine Runs.ret ?_
        refine EndQ.tmp (.inr rfl) rfl rfl 0 (by exact Nat.le_refl _) (by exact Nat.zero_le _) trivial ⟨?_, rfl⟩
        refine ints_eq ?_; rw [← hi.2.1, hk, List.drop_length]; rfl
  · try simp only [Z.a, Z.b, Z.c, Z.d, Z.e, Z.f, Z.g, Z.h, Z.i, Z.j, Z.k, Z.l, Z.m] at h1
    refine RO.off rfl ?_
    refine RO.off rfl ?_
    refine RO.off rfl ?_
    refine RO.off rfl ?_
    refine RO.off rfl ?_
    refine RO.opv (v' := .d (.bool false)) (opv_pick rfl rfl) rfl ?_
    refine RO.nil ?_
    refine Runs.condF rfl ?_
    refine Runs.skip ?_
    refine thenQ_normal ?_
    refine Runs.has [(0, .d (.list (ints _))), (3, .ref 0 0), (4, .nil0)] ⟨rfl, rfl, rfl, trivial⟩ ?_
    refine Runs.seq ?_
    refine Runs.rseq ?_
    refine RO.opv (v' := .d (.int _ _)) (opv_assign rfl) rfl ?_
    refine RO.nil ?_
    refine Runs.block ?_
    refine Runs.loopC (X := (Nat × List Int)) (fun x => x.1 ≤ t.kids.length ∧ (partss (t.kids.drop x.1)).foldl addVar x.2 = t.parts.foldl addVar l ∧ x.2.length + sizes (t.kids.drop x.1) ≤ 2 ^ 28) (fun x => t.kids.length - x.1) [(3, .ref 0 0), (4, .nil0)] (fun x => [(0, .d (.list (ints x.2))), (5, .d (.int .i64 (x.1 : Nat)))]) [_] (fun x => []) (((0 : Nat), addVar l t)) ⟨rfl, rfl, trivial⟩ ⟨(by first | exact ints_eq (if_pos ⟨h1, by simpa using h2⟩).symm | exact ints_eq (if_neg (fun hh => hh.2 (by simpa using h2))).symm | exact ints_eq (if_neg (fun hh => h1 hh.1)).symm), rfl, trivial⟩ rfl ⟨Nat.zero_le _, by rw [List.drop_zero, t.parts_kids, List.foldl_cons], by have := addVar_len l t; show (addVar l t).length + _ ≤ _; simp only [List.drop_zero]; omega⟩ fun x hi => ?_
    refine Runs.seq ?_
    refine Runs.rseq ?_
    refine RO.opv (v' := .d (.int _ _)) (opv_move rfl) rfl ?_
    refine RO.opv (v' := .ref 0 3) (opv_field_ref rfl rfl) rfl ?_
    refine RO.opv (v' := .d (.list (encs _))) (opv_load_ref rfl rfl rfl) rfl ?_
    refine RO.opv (v' := .d (.int _ _)) (opv_len_terms rfl) rfl ?_
    refine RO.opc (opv_bin rfl rfl rfl) (fun h5 => ?_) (fun h5 => ?_)
    · try simp only [Z.a, Z.b, Z.c, Z.d, Z.e, Z.f, Z.g, Z.h, Z.i, Z.j, Z.k, Z.l, Z.m] at h5
      have hk : x.1 < t.kids.length := by omega
      refine RO.nil ?_
      refine Runs.condT rfl ?_
      refine Runs.skip ?_
      refine thenQ_normal ?_
      refine Runs.has [(0, .d (.list (ints _))), (3, .ref 0 0), (4, .nil0), (5, .d (.int _ _))] ⟨rfl, rfl, rfl, rfl, trivial⟩ ?_
      refine Runs.seq ?_
      refine Runs.block ?_
      refine Runs.region ?_
      refine RO.opv (v' := .d (.list (ints _))) (opv_move rfl) rfl ?_
      refine RO.opv (v' := .ref 0 3) (opv_field_ref rfl rfl) rfl ?_
      refine RO.opv (v' := .d (.list (encs _))) (opv_load_ref rfl rfl rfl) rfl ?_
      refine RO.opv (v' := .d (.int _ _)) (opv_move rfl) rfl ?_
      refine RO.opv (v' := .d (.ptr _)) (opv_index_terms rfl rfl (by omega)) rfl ?_
      refine RO.opv (v' := .d (enc _)) (opv_load_pterm rfl) rfl ?_
      refine RO.opv (v' := .d (.list (ints _))) (opv_callF (ih t.kids[x.1] x.2 (by have := sizes_mem (List.getElem_mem hk); omega) (by have := bulks_mem (List.getElem_mem hk); omega) (by have := hi.2.2; rw [drop_get hk, sizes] at this; omega)) rfl rfl rfl trivial) rfl ?_
      refine RO.opv (v' := .d (.list (ints _))) (opv_assign rfl) rfl ?_
      refine RO.nil ?_
      refine blockQ_normal ?_
      refine thenQ_normal ?_
      refine Runs.has [(0, .d (.list (ints _))), (3, .ref 0 0), (4, .nil0), (5, .d (.int _ _))] ⟨rfl, rfl, rfl, rfl, trivial⟩ ?_
      refine Runs.region ?_
      refine RO.opv (v' := .d (.int _ _)) (opv_move rfl) rfl ?_
      refine RO.opv (v' := .d (.int _ _)) (opv_bin rfl rfl rfl) rfl ?_
      refine RO.opv (v' := .d (.int _ _)) (opv_assign rfl) rfl ?_
      refine RO.nil ?_
      refine thenQ_normal ?_
      refine ⟨(x.1 + 1, t.kids[x.1].parts.foldl addVar x.2), 1, (by rw [hK]; exact Nat.le_of_ble_eq_true rfl), ⟨rfl, rfl, trivial⟩, ⟨?_, ?_, trivial⟩, rfl, ?_, ?_⟩
      · rfl
      · refine int_eq ?_; rw [wrap64 (by omega) (by omega)]; omega
      · refine ⟨by show x.1 + 1 ≤ _; omega, ?_, ?_⟩
        · rw [← hi.2.1, drop_get hk, partss, List.foldl_append]
        · have h9 := hi.2.2; have h8 := vars_len t.kids[x.1].parts x.2; rw [parts_size] at h8; rw [drop_get hk, sizes] at h9; show (List.foldl addVar x.2 t.kids[x.1].parts).length + sizes (t.kids.drop (x.1 + 1)) ≤ 2 ^ 28; omega
      · show t.kids.length - (x.1 + 1) < _; omega
    · try simp only [Z.a, Z.b, Z.c, Z.d, Z.e, Z.f, Z.g, Z.h, Z.i, Z.j, Z.k, Z.l, Z.m] at h5
      have hk : x.1 = t.kids.length := by omega
      refine RO.nil ?_
      refine Runs.condF rfl ?_
      refine Runs.exit ?_
      refine thenQ_exit ?_
      refine thenQ_exit ?_
      refine blockQ_here ?_
      refine thenQ_normal ?_
      refine Runs.has [(0, .d (.list (ints _))), (4, .nil0)] ⟨rfl, rfl, trivial⟩ ?_
      refine Runs.rseq ?_
      refine RO.opv (v' := .d (.list (ints _))) (opv_move rfl) rfl ?_
      refine RO.opv (v' := .d (.list (ints _))) (opv_assign rfl) rfl ?_
      refine RO.nil ?_
      refine Runs.ret ?_
      refine EndQ.tmp (.inr rfl) rfl rfl 0 (by exact Nat.le_refl _) (by exact Nat.zero_le _) trivial ⟨?_, rfl⟩
      refine ints_eq ?_; rw [← hi.2.1, hk, List.drop_length]; rfl
theorem rvars_fn (t : Term) (hb : t.bulk ≤ 2 ^ 28) : Fn Try.prog 89 [.d (enc t)] [] (.d (.list (ints t.vars))) [] := by
  refine Does.run Try.func89 rfl Try.ntmps89 rfl fun K hK => ?_
  refine Runs.rseq ?_
  refine RO.opn (v' := .ref 0 0) (O' := [_]) (opv_box_term rfl) rfl rfl ?_
  refine RO.opv (v' := .nil0) (opv_assign rfl) rfl ?_
  refine RO.nil ?_
  refine Runs.has [(1, .ref 0 0), (2, .nil0)] ⟨rfl, rfl, trivial⟩ ?_
  refine Runs.rseq ?_
  refine RO.opv (v' := .d (enc _)) (opv_load_term rfl rfl rfl) rfl ?_
  refine RO.opv (v' := .d (.list (ints _))) (opv_callZ (gather_aux t.size t [] (Nat.le_refl _) hb (by have := t.size_bulk; simp; omega)) rfl rfl rfl trivial) rfl ?_
  refine RO.opv (v' := .d (.list (ints _))) (opv_assign rfl) rfl ?_
  refine RO.nil ?_
  refine Runs.ret ?_
  refine EndQ.tmp (.inr rfl) rfl rfl 0 (by exact Nat.le_refl _) (by exact Nat.zero_le _) trivial ⟨?_, rfl⟩
  rfl
end Go.Proofs.Ytohncglpjiplaaa.AM
