import Derived.Test.YthpiggjclhnkcaaL0
import Derived.Test.YthpiggjclhnkcaaV3
namespace Go.Proofs.Ythpiggjclhnkcaa.AM
open Go
set_option linter.unusedVariables false
set_option linter.unusedSimpArgs false
theorem orderKinds_fn (v n m : Int) (s t : ByteArray) (ks : List Term) (g1 : 0 ≤ v) (g1' : v ≤ 65535) (_g2 : -9223372036854775808 ≤ n) (_g2' : n ≤ 9223372036854775807) (_g3 : -9223372036854775808 ≤ m) (_g3' : m ≤ 9223372036854775807) (g4 : s.size ≤ 2 ^ 20) (g5 : t.size ≤ 2 ^ 20) (g6 : bulks ks ≤ 2 ^ 20) (_g6' : fitss ks) : Fn Try.prog 5 [.d (.int .u16 v), .d (.int .i64 n), .d (.int .i64 m), .d (.str s), .d (.str t), .d (.list (encs ks))] [] (.d (.bool true)) [] := by
  have hL := bulks_len ks
  refine Does.run Try.func5 rfl Try.ntmps5 rfl fun K hK => ?_
  refine Runs.rseq ?_
  refine RO.opv (v' := .d (.bool false)) (opv_assign rfl) rfl ?_
  refine RO.nil ?_
  refine Runs.rseq ?_
  refine RO.opv (v' := .d (.bool true)) (opv_callF (shown_fn) rfl rfl rfl trivial) rfl ?_
  refine RO.opv (v' := .d (.bool true)) (opv_assign rfl) rfl ?_
  refine RO.nil ?_
  refine Runs.has [(0, .d (.int _ _)), (1, .d (.int _ _)), (2, .d (.int _ _)), (3, .d (.str _)), (4, .d (.str _)), (5, .d (.list (encs _))), (12, .d (.bool false)), (13, .d (.bool true))] ⟨rfl, rfl, rfl, rfl, rfl, rfl, rfl, rfl, trivial⟩ ?_
  refine Runs.seq ?_
  refine Runs.rseq ?_
  refine RO.opv (v' := .d (.int _ _)) (opv_assign rfl) rfl ?_
  refine RO.nil ?_
  refine Runs.block ?_
  refine Runs.loopC (X := Nat) (fun i => i ≤ ks.length) (fun i => ks.length - i) [(0, .d (.int _ _)), (1, .d (.int _ _)), (2, .d (.int _ _)), (3, .d (.str _)), (4, .d (.str _)), (5, .d (.list (encs _))), (13, .d (.bool true))] (fun i => [(14, .d (.int .i64 (i : Nat)))]) [] (fun i => []) (0) ⟨rfl, rfl, rfl, rfl, rfl, rfl, rfl, trivial⟩ ⟨rfl, trivial⟩ rfl (by omega) fun i hi => ?_
  refine Runs.seq ?_
  refine Runs.rseq ?_
  refine RO.opv (v' := .d (.int _ _)) (opv_move rfl) rfl ?_
  refine RO.opv (v' := .d (.list (encs _))) (opv_move rfl) rfl ?_
  refine RO.opv (v' := .d (.int _ _)) (opv_len_terms rfl) rfl ?_
  refine RO.opv (v' := .d (.bool _)) (opv_bin rfl rfl rfl) rfl ?_
  refine RO.opc (opv_move rfl) (fun h1 => ?_) (fun h1 => ?_)
  · try simp only [Z.a, Z.b, Z.c, Z.d, Z.e, Z.f, Z.g, Z.h, Z.i, Z.j, Z.k, Z.l, Z.m] at h1
    have hk : i < ks.length := by omega
    refine RO.opgv (v' := .d (.int _ _)) rfl (opv_move rfl) rfl ?_
    refine RO.opgv (v' := .d (.bool _)) rfl (opv_bin rfl rfl rfl) rfl ?_
    refine RO.opc (opv_pick rfl rfl) (fun h2 => ?_) (fun h2 => ?_)
    · try simp only [Z.a, Z.b, Z.c, Z.d, Z.e, Z.f, Z.g, Z.h, Z.i, Z.j, Z.k, Z.l, Z.m] at h2
      refine RO.nil ?_
      refine Runs.condT rfl ?_
      refine Runs.skip ?_
      refine thenQ_normal ?_
      refine Runs.has [(0, .d (.int _ _)), (1, .d (.int _ _)), (2, .d (.int _ _)), (3, .d (.str _)), (4, .d (.str _)), (5, .d (.list (encs _))), (13, .d (.bool true)), (14, .d (.int _ _))] ⟨rfl, rfl, rfl, rfl, rfl, rfl, rfl, rfl, trivial⟩ ?_
      refine Runs.seq ?_
      refine Runs.block ?_
      refine Runs.rseq ?_
      refine RO.opv (v' := .d (.list (encs _))) (opv_move rfl) rfl ?_
      refine RO.opv (v' := .d (.int _ _)) (opv_move rfl) rfl ?_
      refine RO.opv (v' := .d (.ptr _)) (opv_index_terms rfl rfl (by omega)) rfl ?_
      refine RO.opv (v' := .d (enc _)) (opv_load_pterm rfl) rfl ?_
      refine RO.opv (v' := .d (.bool _)) (opv_callF (few_fn ks[i] (by have := bulks_mem (List.getElem_mem hk); omega)) rfl rfl rfl trivial) rfl ?_
      refine RO.opc (opv_not rfl rfl) (fun h3 => ?_) (fun h3 => ?_)
      · try simp only [Z.a, Z.b, Z.c, Z.d, Z.e, Z.f, Z.g, Z.h, Z.i, Z.j, Z.k, Z.l, Z.m] at h3
        refine RO.nil ?_
        refine Runs.condT rfl ?_
        refine Runs.has [(0, .d (.int _ _)), (1, .d (.int _ _)), (2, .d (.int _ _)), (3, .d (.str _)), (4, .d (.str _)), (5, .d (.list (encs _))), (13, .d (.bool true)), (14, .d (.int _ _))] ⟨rfl, rfl, rfl, rfl, rfl, rfl, rfl, rfl, trivial⟩ ?_
        refine Runs.rseq ?_
        refine RO.opv (v' := .d (.bool true)) (opv_move rfl) rfl ?_
        refine RO.opv (v' := .d (.bool true)) (opv_assign rfl) rfl ?_
        refine RO.nil ?_
        refine Runs.ret ?_
        refine blockQ_ret ?_
        refine thenQ_ret ?_
        refine thenQ_ret ?_
        refine blockQ_ret ?_
        refine thenQ_ret ?_
        refine EndQ.tmp (.inr rfl) rfl rfl 0 (by exact Nat.le_refl _) (by exact Nat.zero_le _) trivial ⟨?_, rfl⟩
        first
          | rfl
          | (refine bool_eq ?_; rw [compare_names, cmpS_lt]; exact beq_self_eq_true _)
      · try simp only [Z.a, Z.b, Z.c, Z.d, Z.e, Z.f, Z.g, Z.h, Z.i, Z.j, Z.k, Z.l, Z.m] at h3
        refine RO.nil ?_
        refine Runs.condF rfl ?_
        refine Runs.skip ?_
        refine blockQ_normal ?_
        refine thenQ_normal ?_
        refine Runs.has [(0, .d (.int _ _)), (1, .d (.int _ _)), (2, .d (.int _ _)), (3, .d (.str _)), (4, .d (.str _)), (5, .d (.list (encs _))), (13, .d (.bool true)), (14, .d (.int _ _))] ⟨rfl, rfl, rfl, rfl, rfl, rfl, rfl, rfl, trivial⟩ ?_
        refine Runs.region ?_
        refine RO.opv (v' := .d (.int _ _)) (opv_move rfl) rfl ?_
        refine RO.opv (v' := .d (.int _ _)) (opv_bin rfl rfl rfl) rfl ?_
        refine RO.opv (v' := .d (.int _ _)) (opv_assign rfl) rfl ?_
        refine RO.nil ?_
        refine thenQ_normal ?_
        refine ⟨i+1, 0, (by rw [hK]; exact Nat.le_of_ble_eq_true rfl), ⟨rfl, rfl, rfl, rfl, rfl, rfl, rfl, trivial⟩, ⟨?_, trivial⟩, rfl, ?_, ?_⟩
        · refine int_eq ?_; rw [wrap64 (by omega) (by omega)]; omega
        · omega
        · omega
    · try simp only [Z.a, Z.b, Z.c, Z.d, Z.e, Z.f, Z.g, Z.h, Z.i, Z.j, Z.k, Z.l, Z.m] at h2
      refine RO.nil ?_
      refine Runs.condF rfl ?_
      refine Runs.exit ?_
      refine thenQ_exit ?_
      refine thenQ_exit ?_
      refine blockQ_here ?_
      refine thenQ_normal ?_
      refine Runs.has [(0, .d (.int _ _)), (1, .d (.int _ _)), (2, .d (.int _ _)), (3, .d (.str _)), (4, .d (.str _)), (5, .d (.list (encs _))), (13, .d (.bool true))] ⟨rfl, rfl, rfl, rfl, rfl, rfl, rfl, trivial⟩ ?_
      refine Runs.seq ?_
      refine Runs.rseq ?_
      refine RO.opv (v' := .d (.list (encs _))) (opv_move rfl) rfl ?_
      refine RO.opv (v' := .d (.int _ _)) (opv_len_terms rfl) rfl ?_
      refine RO.opc (opv_bin rfl rfl rfl) (fun h4 => ?_) (fun h4 => ?_)
      · try simp only [Z.a, Z.b, Z.c, Z.d, Z.e, Z.f, Z.g, Z.h, Z.i, Z.j, Z.k, Z.l, Z.m] at h4
        refine RO.nil ?_
        refine Runs.condT rfl ?_
        refine Runs.has [(0, .d (.int _ _)), (1, .d (.int _ _)), (2, .d (.int _ _)), (3, .d (.str _)), (4, .d (.str _)), (5, .d (.list (encs _))), (13, .d (.bool true))] ⟨rfl, rfl, rfl, rfl, rfl, rfl, rfl, trivial⟩ ?_
        refine Runs.rseq ?_
        refine RO.opv (v' := .d (.bool true)) (opv_move rfl) rfl ?_
        refine RO.opv (v' := .d (.bool true)) (opv_assign rfl) rfl ?_
        refine RO.nil ?_
        refine Runs.ret ?_
        refine thenQ_ret ?_
        refine EndQ.tmp (.inr rfl) rfl rfl 0 (by exact Nat.le_refl _) (by exact Nat.zero_le _) trivial ⟨?_, rfl⟩
        first
          | rfl
          | (refine bool_eq ?_; rw [compare_names, cmpS_lt]; exact beq_self_eq_true _)
      · try simp only [Z.a, Z.b, Z.c, Z.d, Z.e, Z.f, Z.g, Z.h, Z.i, Z.j, Z.k, Z.l, Z.m] at h4
        refine RO.nil ?_
        refine Runs.condF rfl ?_
        refine Runs.skip ?_
        refine thenQ_normal ?_
        refine Runs.has [(0, .d (.int _ _)), (1, .d (.int _ _)), (2, .d (.int _ _)), (3, .d (.str _)), (4, .d (.str _)), (5, .d (.list (encs _))), (13, .d (.bool true))] ⟨rfl, rfl, rfl, rfl, rfl, rfl, rfl, trivial⟩ ?_
        refine Runs.rseq ?_
        refine RO.opv (v' := .d (.int _ _)) (opv_move rfl) rfl ?_
        refine RO.opv (v' := .d (.int _ _)) (opv_conv (r := v) rfl (wrap64 (by omega) (by omega))) rfl ?_
        refine RO.opv (v' := .d (enc _)) (opv_callF (let_fn v) rfl rfl rfl trivial) rfl ?_
        refine RO.opn (v' := .ref 0 0) (O' := [_]) (opv_alloc) rfl rfl ?_
        refine RO.op0n (O' := [_]) (opv_store_term rfl rfl rfl (Nat.le_of_ble_eq_true rfl)) rfl ?_
        refine RO.nil ?_
        refine Runs.has [(1, .d (.int _ _)), (2, .d (.int _ _)), (3, .d (.str _)), (4, .d (.str _)), (5, .d (.list (encs _))), (13, .d (.bool true)), (15, .ref 0 0)] ⟨rfl, rfl, rfl, rfl, rfl, rfl, rfl, trivial⟩ ?_
        refine Runs.rseq ?_
        refine RO.opv (v' := .d (.int _ _)) (opv_move rfl) rfl ?_
        refine RO.opv (v' := .d (enc _)) (opv_callF (num_fn n) rfl rfl rfl trivial) rfl ?_
        refine RO.opn (v' := .ref 1 0) (O' := [_, _]) (opv_alloc) rfl rfl ?_
        refine RO.op0n (O' := [_, _]) (opv_store_term rfl rfl rfl (Nat.le_of_ble_eq_true rfl)) rfl ?_
        refine RO.nil ?_
        refine Runs.has [(1, .d (.int _ _)), (2, .d (.int _ _)), (3, .d (.str _)), (4, .d (.str _)), (5, .d (.list (encs _))), (13, .d (.bool true)), (15, .ref 0 0), (16, .ref 1 0)] ⟨rfl, rfl, rfl, rfl, rfl, rfl, rfl, rfl, trivial⟩ ?_
        refine Runs.rseq ?_
        refine RO.opv (v' := .d (.str _)) (opv_move rfl) rfl ?_
        refine RO.opv (v' := .d (.list (encs _))) (opv_move rfl) rfl ?_
        refine RO.opv (v' := .d (enc _)) (opv_callF (make_fn s ks (by omega)) rfl rfl rfl trivial) rfl ?_
        refine RO.opn (v' := .ref 2 0) (O' := [_, _, _]) (opv_alloc) rfl rfl ?_
        refine RO.op0n (O' := [_, _, _]) (opv_store_term rfl rfl rfl (Nat.le_of_ble_eq_true rfl)) rfl ?_
        refine RO.nil ?_
        refine Runs.has [(1, .d (.int _ _)), (2, .d (.int _ _)), (3, .d (.str _)), (4, .d (.str _)), (5, .d (.list (encs _))), (13, .d (.bool true)), (15, .ref 0 0), (16, .ref 1 0), (17, .ref 2 0)] ⟨rfl, rfl, rfl, rfl, rfl, rfl, rfl, rfl, rfl, trivial⟩ ?_
        refine Runs.newbuf 24 4 ?_
        refine Runs.seq ?_
        refine Runs.drawnA (by kernel_rfl) [1] [false, true, false, true, false, false, true, false] 8 18 4 (.cells [.d (.int .i64 0), .d (.int .i64 0), .d (.str ⟨#[]⟩), .nil0]) rfl rfl rfl (by decide +kernel) (by decide +kernel) rfl (by intro x hx; simp at hx; subst hx; exact (show 1 < 4 by decide)) rfl ?_
        refine RX.pure (v' := .d (.str _)) (fun O' hkeep => opv_move rfl) rfl ?_
        refine RX.turn (v := .own 3 1) [_, _, _, .buf 24 4 (encs []) 1] rfl ⟨rfl, trivial⟩ (fun X _ => OpV.adopt_at (e := 24) (sz := 4) (opv_buildSlice0 rfl) rfl) ?_
        refine RX.pure (v' := .d (.list (encs _))) (fun O' hkeep => opv_move rfl) rfl ?_
        refine RX.turn (v := .own 3 2) [_, _, _, .buf 24 4 (encs ([] ++ ks)) 2] rfl ⟨rfl, trivial⟩ (fun X _ => opv_append_terms (l := []) (m := ks) rfl rfl rfl (by simp; omega)) ?_
        refine RX.pure (v' := .d (enc _)) (fun O' hkeep => opv_load_term rfl (hkeep.1.trans rfl) rfl) rfl ?_
        refine RX.pure (v' := .d (.list (encs _))) (fun O' hkeep => opv_bs_term1 rfl) rfl ?_
        refine RX.turn (v := .d (.list (encs (ks ++ [(.node 2 n ⟨#[]⟩ [])])))) [_, _, _, .dead] rfl ⟨rfl, trivial⟩ (fun X _ => OpV.shut (id := 3) (ver := 3) (e := 24) (sz := 4) (xs := encs (ks ++ [(.node 2 n ⟨#[]⟩ [])])) (O1 := [_, _, _, .buf 24 4 (encs (ks ++ [(.node 2 n ⟨#[]⟩ [])])) 3] ++ X) (opv_append_terms (l := ks) (m := [(.node 2 n ⟨#[]⟩ [])]) rfl rfl rfl (by simp; omega)) rfl) ?_
        refine RX.pure (v' := .d (enc _)) (fun O' hkeep => opv_callF (make_fn t (ks ++ [(.node 2 n ⟨#[]⟩ [])]) (by simp; omega)) rfl rfl rfl (by exact trivial)) rfl ?_
        refine RX.nil ?_
        intro oa os e1 e2
        obtain rfl := Option.some.inj e1
        obtain rfl := Option.some.inj e2
        refine ⟨rfl, rfl, fun O' hO' => ?_, _, [_, _, _, _, _], opv_store_term rfl rfl rfl (Nat.le_of_ble_eq_true rfl), rfl, ?_⟩
        · rw [← hO']; exact opv_alloc
        refine thenQ_normal ?_
        refine Runs.seq ?_
        refine Runs.drawn (by kernel_rfl) [] [false, false, false, false, false, false, false, false, false, false, false, false, false, false, false, false, false, false, false, false, false, false, false, false, false, false, false, false, false, false, false, false, false, false, false, false, false, false, false, false, false, false, false] [false, false, false, false, false, false, false, false, false, false, false, false, false, false, false, false, false, false, false, false, false, false, false, false, false, false, false, false, false, false, false, false, false, false, false, false, false, false, false, false, false, false, false] (by decide +kernel) ?_
        refine RD.opv (v' := .d (.bool true)) (opv_move rfl) rfl ?_
        refine RD.opv (v' := .d (.bool true)) (opv_move rfl) rfl ?_
        refine RD.opgv (v' := .d (enc _)) rfl (opv_load_term rfl rfl rfl) rfl ?_
        refine RD.opgv (v' := .d (enc _)) rfl (opv_load_term rfl rfl rfl) rfl ?_
        refine RD.opgv (v' := .d (.int _ _)) rfl (opv_callF (compare_fn (.node 1 v ⟨#[]⟩ []) (.node 2 n ⟨#[]⟩ []) (by show 0 + 0 + 1 ≤ _; omega) (by show 0 + 0 + 1 ≤ _; omega)) rfl rfl rfl trivial) rfl ?_
        refine RD.opgv (v' := .d (.bool _)) rfl (opv_bin rfl rfl rfl) rfl ?_
        refine RD.opv (v' := .d (.bool _)) (opv_pick rfl rfl) rfl ?_
        refine RD.opc (opv_move rfl) (fun h5 => ?_) (fun h5 => ?_)
        · try simp only [Z.a, Z.b, Z.c, Z.d, Z.e, Z.f, Z.g, Z.h, Z.i, Z.j, Z.k, Z.l, Z.m] at h5
          refine RD.opgv (v' := .d (enc _)) rfl (opv_load_term rfl rfl rfl) rfl ?_
          refine RD.opgv (v' := .d (enc _)) rfl (opv_load_term rfl rfl rfl) rfl ?_
          refine RD.opgv (v' := .d (.int _ _)) rfl (opv_callF (compare_fn (.node 2 n ⟨#[]⟩ []) (.node 3 0 s ks) (by show 0 + 0 + 1 ≤ _; omega) (by simp only [Term.bulk]; omega)) rfl rfl rfl trivial) rfl ?_
          refine RD.opgv (v' := .d (.bool _)) rfl (opv_bin rfl rfl rfl) rfl ?_
          refine RD.opv (v' := .d (.bool _)) (opv_pick rfl rfl) rfl ?_
          refine RD.opc (opv_move rfl) (fun h6 => ?_) (fun h6 => ?_)
          · try simp only [Z.a, Z.b, Z.c, Z.d, Z.e, Z.f, Z.g, Z.h, Z.i, Z.j, Z.k, Z.l, Z.m] at h6
            refine RD.opgv (v' := .d (enc _)) rfl (opv_load_term rfl rfl rfl) rfl ?_
            refine RD.opgv (v' := .d (.int _ _)) rfl (opv_move rfl) rfl ?_
            refine RD.opgv (v' := .d (enc _)) rfl (opv_callF (num_fn m) rfl rfl rfl trivial) rfl ?_
            refine RD.opgv (v' := .d (.int _ _)) rfl (opv_callF (compare_fn (.node 2 n ⟨#[]⟩ []) (.node 2 m ⟨#[]⟩ []) (by show 0 + 0 + 1 ≤ _; omega) (by show 0 + 0 + 1 ≤ _; omega)) rfl rfl rfl trivial) rfl ?_
            refine RD.opgv (v' := .d (.bool _)) rfl (opv_bin rfl rfl rfl) rfl ?_
            refine RD.opgv (v' := .d (.int _ _)) rfl (opv_move rfl) rfl ?_
            refine RD.opgv (v' := .d (.int _ _)) rfl (opv_move rfl) rfl ?_
            refine RD.opgv (v' := .d (.bool _)) rfl (opv_bin rfl rfl rfl) rfl ?_
            refine RD.opgv (v' := .d (.bool _)) rfl (opv_bool rfl rfl rfl) rfl ?_
            refine RD.opv (v' := .d (.bool _)) (opv_pick rfl rfl) rfl ?_
            refine RD.opc (opv_move rfl) (fun h7 => ?_) (fun h7 => ?_)
            · try simp only [Z.a, Z.b, Z.c, Z.d, Z.e, Z.f, Z.g, Z.h, Z.i, Z.j, Z.k, Z.l, Z.m] at h7
              refine RD.opgv (v' := .d (enc _)) rfl (opv_load_term rfl rfl rfl) rfl ?_
              refine RD.opgv (v' := .d (enc _)) rfl (opv_load_node rfl rfl rfl rfl) rfl ?_
              refine RD.opgv (v' := .d (.int _ _)) rfl (opv_callF (compare_fn (.node 3 0 s ks) (.node 3 0 t (ks ++ [(.node 2 n ⟨#[]⟩ [])])) (by simp only [Term.bulk]; omega) (by simp only [Term.bulk, bulks_app, bulks]; show _ + (_ + (0 + 0 + 1 + _)) + 1 ≤ _; omega)) rfl rfl rfl trivial) rfl ?_
              refine RD.opgv (v' := .d (.bool _)) rfl (opv_bin rfl rfl rfl) rfl ?_
              refine RD.opv (v' := .d (.bool _)) (opv_pick rfl rfl) rfl ?_
              refine RD.opc (opv_move rfl) (fun h8 => ?_) (fun h8 => ?_)
              · try simp only [Z.a, Z.b, Z.c, Z.d, Z.e, Z.f, Z.g, Z.h, Z.i, Z.j, Z.k, Z.l, Z.m] at h8
                refine RD.opgv (v' := .d (enc _)) rfl (opv_load_term rfl rfl rfl) rfl ?_
                refine RD.opgv (v' := .d (.str _)) rfl (opv_move rfl) rfl ?_
                refine RD.opgv (v' := .d (.list (encs _))) rfl (opv_move rfl) rfl ?_
                refine RD.opgv (v' := .d (enc _)) rfl (opv_callF (make_fn t ks (by omega)) rfl rfl rfl trivial) rfl ?_
                refine RD.opgv (v' := .d (.int _ _)) rfl (opv_callF (compare_fn (.node 3 0 s ks) (.node 3 0 t ks) (by simp only [Term.bulk]; omega) (by simp only [Term.bulk]; omega)) rfl rfl rfl trivial) rfl ?_
                refine RD.opgv (v' := .d (.bool _)) rfl (opv_bin rfl rfl rfl) rfl ?_
                refine RD.opgv (v' := .d (.str _)) rfl (opv_move rfl) rfl ?_
                refine RD.opgv (v' := .d (.str _)) rfl (opv_move rfl) rfl ?_
                refine RD.opgv (v' := .d (.bool _)) rfl (opv_bin rfl rfl rfl) rfl ?_
                refine RD.opgv (v' := .d (.bool _)) rfl (opv_bool rfl rfl rfl) rfl ?_
                refine RD.opv (v' := .d (.bool _)) (opv_pick rfl rfl) rfl ?_
                refine RD.opv (v' := .d (.bool _)) (opv_assign rfl) rfl ?_
                refine RD.nil ?_
                refine thenQ_normal ?_
                refine Runs.ret ?_
                refine EndQ.tmp (.inr rfl) rfl rfl 0 (by exact Nat.le_refl _) (by exact Nat.zero_le _) trivial ⟨?_, rfl⟩
                first
                  | rfl
                  | (refine bool_eq ?_; rw [compare_names, cmpS_lt]; exact beq_self_eq_true _)
              · try simp only [Z.a, Z.b, Z.c, Z.d, Z.e, Z.f, Z.g, Z.h, Z.i, Z.j, Z.k, Z.l, Z.m] at h8
                exact absurd (compare_more s t ks _) h8
            · try simp only [Z.a, Z.b, Z.c, Z.d, Z.e, Z.f, Z.g, Z.h, Z.i, Z.j, Z.k, Z.l, Z.m] at h7
              exfalso
              rw [compare_nn, cmpI_lt] at h7
              exact absurd rfl h7
          · try simp only [Z.a, Z.b, Z.c, Z.d, Z.e, Z.f, Z.g, Z.h, Z.i, Z.j, Z.k, Z.l, Z.m] at h6
            exact absurd (compare_nf n s ks) h6
        · try simp only [Z.a, Z.b, Z.c, Z.d, Z.e, Z.f, Z.g, Z.h, Z.i, Z.j, Z.k, Z.l, Z.m] at h5
          exact absurd (compare_vn v n) h5
  · try simp only [Z.a, Z.b, Z.c, Z.d, Z.e, Z.f, Z.g, Z.h, Z.i, Z.j, Z.k, Z.l, Z.m] at h1
    skip
    refine RO.off rfl ?_
    refine RO.off rfl ?_
    refine RO.opv (v' := .d (.bool false)) (opv_pick rfl rfl) rfl ?_
    refine RO.nil ?_
    refine Runs.condF rfl ?_
    refine Runs.exit ?_
    refine thenQ_exit ?_
    refine thenQ_exit ?_
    refine blockQ_here ?_
    refine thenQ_normal ?_
    refine Runs.has [(0, .d (.int _ _)), (1, .d (.int _ _)), (2, .d (.int _ _)), (3, .d (.str _)), (4, .d (.str _)), (5, .d (.list (encs _))), (13, .d (.bool true))] ⟨rfl, rfl, rfl, rfl, rfl, rfl, rfl, trivial⟩ ?_
    refine Runs.seq ?_
    refine Runs.rseq ?_
    refine RO.opv (v' := .d (.list (encs _))) (opv_move rfl) rfl ?_
    refine RO.opv (v' := .d (.int _ _)) (opv_len_terms rfl) rfl ?_
    refine RO.opc (opv_bin rfl rfl rfl) (fun h9 => ?_) (fun h9 => ?_)
    · try simp only [Z.a, Z.b, Z.c, Z.d, Z.e, Z.f, Z.g, Z.h, Z.i, Z.j, Z.k, Z.l, Z.m] at h9
      refine RO.nil ?_
      refine Runs.condT rfl ?_
      refine Runs.has [(0, .d (.int _ _)), (1, .d (.int _ _)), (2, .d (.int _ _)), (3, .d (.str _)), (4, .d (.str _)), (5, .d (.list (encs _))), (13, .d (.bool true))] ⟨rfl, rfl, rfl, rfl, rfl, rfl, rfl, trivial⟩ ?_
      refine Runs.rseq ?_
      refine RO.opv (v' := .d (.bool true)) (opv_move rfl) rfl ?_
      refine RO.opv (v' := .d (.bool true)) (opv_assign rfl) rfl ?_
      refine RO.nil ?_
      refine Runs.ret ?_
      refine thenQ_ret ?_
      refine EndQ.tmp (.inr rfl) rfl rfl 0 (by exact Nat.le_refl _) (by exact Nat.zero_le _) trivial ⟨?_, rfl⟩
      first
        | rfl
        | (refine bool_eq ?_; rw [compare_names, cmpS_lt]; exact beq_self_eq_true _)
    · try simp only [Z.a, Z.b, Z.c, Z.d, Z.e, Z.f, Z.g, Z.h, Z.i, Z.j, Z.k, Z.l, Z.m] at h9
      refine RO.nil ?_
      refine Runs.condF rfl ?_
      refine Runs.skip ?_
      refine thenQ_normal ?_
      refine Runs.has [(0, .d (.int _ _)), (1, .d (.int _ _)), (2, .d (.int _ _)), (3, .d (.str _)), (4, .d (.str _)), (5, .d (.list (encs _))), (13, .d (.bool true))] ⟨rfl, rfl, rfl, rfl, rfl, rfl, rfl, trivial⟩ ?_
      refine Runs.rseq ?_
      refine RO.opv (v' := .d (.int _ _)) (opv_move rfl) rfl ?_
      refine RO.opv (v' := .d (.int _ _)) (opv_conv (r := v) rfl (wrap64 (by omega) (by omega))) rfl ?_
      refine RO.opv (v' := .d (enc _)) (opv_callF (let_fn v) rfl rfl rfl trivial) rfl ?_
      refine RO.opn (v' := .ref 0 0) (O' := [_]) (opv_alloc) rfl rfl ?_
      refine RO.op0n (O' := [_]) (opv_store_term rfl rfl rfl (Nat.le_of_ble_eq_true rfl)) rfl ?_
      refine RO.nil ?_
      refine Runs.has [(1, .d (.int _ _)), (2, .d (.int _ _)), (3, .d (.str _)), (4, .d (.str _)), (5, .d (.list (encs _))), (13, .d (.bool true)), (15, .ref 0 0)] ⟨rfl, rfl, rfl, rfl, rfl, rfl, rfl, trivial⟩ ?_
      refine Runs.rseq ?_
      refine RO.opv (v' := .d (.int _ _)) (opv_move rfl) rfl ?_
      refine RO.opv (v' := .d (enc _)) (opv_callF (num_fn n) rfl rfl rfl trivial) rfl ?_
      refine RO.opn (v' := .ref 1 0) (O' := [_, _]) (opv_alloc) rfl rfl ?_
      refine RO.op0n (O' := [_, _]) (opv_store_term rfl rfl rfl (Nat.le_of_ble_eq_true rfl)) rfl ?_
      refine RO.nil ?_
      refine Runs.has [(1, .d (.int _ _)), (2, .d (.int _ _)), (3, .d (.str _)), (4, .d (.str _)), (5, .d (.list (encs _))), (13, .d (.bool true)), (15, .ref 0 0), (16, .ref 1 0)] ⟨rfl, rfl, rfl, rfl, rfl, rfl, rfl, rfl, trivial⟩ ?_
      refine Runs.rseq ?_
      refine RO.opv (v' := .d (.str _)) (opv_move rfl) rfl ?_
      refine RO.opv (v' := .d (.list (encs _))) (opv_move rfl) rfl ?_
      refine RO.opv (v' := .d (enc _)) (opv_callF (make_fn s ks (by omega)) rfl rfl rfl trivial) rfl ?_
      refine RO.opn (v' := .ref 2 0) (O' := [_, _, _]) (opv_alloc) rfl rfl ?_
      refine RO.op0n (O' := [_, _, _]) (opv_store_term rfl rfl rfl (Nat.le_of_ble_eq_true rfl)) rfl ?_
      refine RO.nil ?_
      refine Runs.has [(1, .d (.int _ _)), (2, .d (.int _ _)), (3, .d (.str _)), (4, .d (.str _)), (5, .d (.list (encs _))), (13, .d (.bool true)), (15, .ref 0 0), (16, .ref 1 0), (17, .ref 2 0)] ⟨rfl, rfl, rfl, rfl, rfl, rfl, rfl, rfl, rfl, trivial⟩ ?_
      refine Runs.newbuf 24 4 ?_
      refine Runs.seq ?_
      refine Runs.drawnA (by kernel_rfl) [1] [false, true, false, true, false, false, true, false] 8 18 4 (.cells [.d (.int .i64 0), .d (.int .i64 0), .d (.str ⟨#[]⟩), .nil0]) rfl rfl rfl (by decide +kernel) (by decide +kernel) rfl (by intro x hx; simp at hx; subst hx; exact (show 1 < 4 by decide)) rfl ?_
      refine RX.pure (v' := .d (.str _)) (fun O' hkeep => opv_move rfl) rfl ?_
      refine RX.turn (v := .own 3 1) [_, _, _, .buf 24 4 (encs []) 1] rfl ⟨rfl, trivial⟩ (fun X _ => OpV.adopt_at (e := 24) (sz := 4) (opv_buildSlice0 rfl) rfl) ?_
      refine RX.pure (v' := .d (.list (encs _))) (fun O' hkeep => opv_move rfl) rfl ?_
      refine RX.turn (v := .own 3 2) [_, _, _, .buf 24 4 (encs ([] ++ ks)) 2] rfl ⟨rfl, trivial⟩ (fun X _ => opv_append_terms (l := []) (m := ks) rfl rfl rfl (by simp; omega)) ?_
      refine RX.pure (v' := .d (enc _)) (fun O' hkeep => opv_load_term rfl (hkeep.1.trans rfl) rfl) rfl ?_
      refine RX.pure (v' := .d (.list (encs _))) (fun O' hkeep => opv_bs_term1 rfl) rfl ?_
      refine RX.turn (v := .d (.list (encs (ks ++ [(.node 2 n ⟨#[]⟩ [])])))) [_, _, _, .dead] rfl ⟨rfl, trivial⟩ (fun X _ => OpV.shut (id := 3) (ver := 3) (e := 24) (sz := 4) (xs := encs (ks ++ [(.node 2 n ⟨#[]⟩ [])])) (O1 := [_, _, _, .buf 24 4 (encs (ks ++ [(.node 2 n ⟨#[]⟩ [])])) 3] ++ X) (opv_append_terms (l := ks) (m := [(.node 2 n ⟨#[]⟩ [])]) rfl rfl rfl (by simp; omega)) rfl) ?_
      refine RX.pure (v' := .d (enc _)) (fun O' hkeep => opv_callF (make_fn t (ks ++ [(.node 2 n ⟨#[]⟩ [])]) (by simp; omega)) rfl rfl rfl (by exact trivial)) rfl ?_
      refine RX.nil ?_
      intro oa os e1 e2
      obtain rfl := Option.some.inj e1
      obtain rfl := Option.some.inj e2
      refine ⟨rfl, rfl, fun O' hO' => ?_, _, [_, _, _, _, _], opv_store_term rfl rfl rfl (Nat.le_of_ble_eq_true rfl), rfl, ?_⟩
      · rw [← hO']; exact opv_alloc
      refine thenQ_normal ?_
      refine Runs.seq ?_
      refine Runs.drawn (by kernel_rfl) [] [false, false, false, false, false, false, false, false, false, false, false, false, false, false, false, false, false, false, false, false, false, false, false, false, false, false, false, false, false, false, false, false, false, false, false, false, false, false, false, false, false, false, false] [false, false, false, false, false, false, false, false, false, false, false, false, false, false, false, false, false, false, false, false, false, false, false, false, false, false, false, false, false, false, false, false, false, false, false, false, false, false, false, false, false, false, false] (by decide +kernel) ?_
      refine RD.opv (v' := .d (.bool true)) (opv_move rfl) rfl ?_
      refine RD.opv (v' := .d (.bool true)) (opv_move rfl) rfl ?_
      refine RD.opgv (v' := .d (enc _)) rfl (opv_load_term rfl rfl rfl) rfl ?_
      refine RD.opgv (v' := .d (enc _)) rfl (opv_load_term rfl rfl rfl) rfl ?_
      refine RD.opgv (v' := .d (.int _ _)) rfl (opv_callF (compare_fn (.node 1 v ⟨#[]⟩ []) (.node 2 n ⟨#[]⟩ []) (by show 0 + 0 + 1 ≤ _; omega) (by show 0 + 0 + 1 ≤ _; omega)) rfl rfl rfl trivial) rfl ?_
      refine RD.opgv (v' := .d (.bool _)) rfl (opv_bin rfl rfl rfl) rfl ?_
      refine RD.opv (v' := .d (.bool _)) (opv_pick rfl rfl) rfl ?_
      refine RD.opc (opv_move rfl) (fun h10 => ?_) (fun h10 => ?_)
      · try simp only [Z.a, Z.b, Z.c, Z.d, Z.e, Z.f, Z.g, Z.h, Z.i, Z.j, Z.k, Z.l, Z.m] at h10
        refine RD.opgv (v' := .d (enc _)) rfl (opv_load_term rfl rfl rfl) rfl ?_
        refine RD.opgv (v' := .d (enc _)) rfl (opv_load_term rfl rfl rfl) rfl ?_
        refine RD.opgv (v' := .d (.int _ _)) rfl (opv_callF (compare_fn (.node 2 n ⟨#[]⟩ []) (.node 3 0 s ks) (by show 0 + 0 + 1 ≤ _; omega) (by simp only [Term.bulk]; omega)) rfl rfl rfl trivial) rfl ?_
        refine RD.opgv (v' := .d (.bool _)) rfl (opv_bin rfl rfl rfl) rfl ?_
        refine RD.opv (v' := .d (.bool _)) (opv_pick rfl rfl) rfl ?_
        refine RD.opc (opv_move rfl) (fun h11 => ?_) (fun h11 => ?_)
        · try simp only [Z.a, Z.b, Z.c, Z.d, Z.e, Z.f, Z.g, Z.h, Z.i, Z.j, Z.k, Z.l, Z.m] at h11
          refine RD.opgv (v' := .d (enc _)) rfl (opv_load_term rfl rfl rfl) rfl ?_
          refine RD.opgv (v' := .d (.int _ _)) rfl (opv_move rfl) rfl ?_
          refine RD.opgv (v' := .d (enc _)) rfl (opv_callF (num_fn m) rfl rfl rfl trivial) rfl ?_
          refine RD.opgv (v' := .d (.int _ _)) rfl (opv_callF (compare_fn (.node 2 n ⟨#[]⟩ []) (.node 2 m ⟨#[]⟩ []) (by show 0 + 0 + 1 ≤ _; omega) (by show 0 + 0 + 1 ≤ _; omega)) rfl rfl rfl trivial) rfl ?_
          refine RD.opgv (v' := .d (.bool _)) rfl (opv_bin rfl rfl rfl) rfl ?_
          refine RD.opgv (v' := .d (.int _ _)) rfl (opv_move rfl) rfl ?_
          refine RD.opgv (v' := .d (.int _ _)) rfl (opv_move rfl) rfl ?_
          refine RD.opgv (v' := .d (.bool _)) rfl (opv_bin rfl rfl rfl) rfl ?_
          refine RD.opgv (v' := .d (.bool _)) rfl (opv_bool rfl rfl rfl) rfl ?_
          refine RD.opv (v' := .d (.bool _)) (opv_pick rfl rfl) rfl ?_
          refine RD.opc (opv_move rfl) (fun h12 => ?_) (fun h12 => ?_)
          · try simp only [Z.a, Z.b, Z.c, Z.d, Z.e, Z.f, Z.g, Z.h, Z.i, Z.j, Z.k, Z.l, Z.m] at h12
            refine RD.opgv (v' := .d (enc _)) rfl (opv_load_term rfl rfl rfl) rfl ?_
            refine RD.opgv (v' := .d (enc _)) rfl (opv_load_node rfl rfl rfl rfl) rfl ?_
            refine RD.opgv (v' := .d (.int _ _)) rfl (opv_callF (compare_fn (.node 3 0 s ks) (.node 3 0 t (ks ++ [(.node 2 n ⟨#[]⟩ [])])) (by simp only [Term.bulk]; omega) (by simp only [Term.bulk, bulks_app, bulks]; show _ + (_ + (0 + 0 + 1 + _)) + 1 ≤ _; omega)) rfl rfl rfl trivial) rfl ?_
            refine RD.opgv (v' := .d (.bool _)) rfl (opv_bin rfl rfl rfl) rfl ?_
            refine RD.opv (v' := .d (.bool _)) (opv_pick rfl rfl) rfl ?_
            refine RD.opc (opv_move rfl) (fun h13 => ?_) (fun h13 => ?_)
            · try simp only [Z.a, Z.b, Z.c, Z.d, Z.e, Z.f, Z.g, Z.h, Z.i, Z.j, Z.k, Z.l, Z.m] at h13
              refine RD.opgv (v' := .d (enc _)) rfl (opv_load_term rfl rfl rfl) rfl ?_
              refine RD.opgv (v' := .d (.str _)) rfl (opv_move rfl) rfl ?_
              refine RD.opgv (v' := .d (.list (encs _))) rfl (opv_move rfl) rfl ?_
              refine RD.opgv (v' := .d (enc _)) rfl (opv_callF (make_fn t ks (by omega)) rfl rfl rfl trivial) rfl ?_
              refine RD.opgv (v' := .d (.int _ _)) rfl (opv_callF (compare_fn (.node 3 0 s ks) (.node 3 0 t ks) (by simp only [Term.bulk]; omega) (by simp only [Term.bulk]; omega)) rfl rfl rfl trivial) rfl ?_
              refine RD.opgv (v' := .d (.bool _)) rfl (opv_bin rfl rfl rfl) rfl ?_
              refine RD.opgv (v' := .d (.str _)) rfl (opv_move rfl) rfl ?_
              refine RD.opgv (v' := .d (.str _)) rfl (opv_move rfl) rfl ?_
              refine RD.opgv (v' := .d (.bool _)) rfl (opv_bin rfl rfl rfl) rfl ?_
              refine RD.opgv (v' := .d (.bool _)) rfl (opv_bool rfl rfl rfl) rfl ?_
              refine RD.opv (v' := .d (.bool _)) (opv_pick rfl rfl) rfl ?_
              refine RD.opv (v' := .d (.bool _)) (opv_assign rfl) rfl ?_
              refine RD.nil ?_
              refine thenQ_normal ?_
              refine Runs.ret ?_
              refine EndQ.tmp (.inr rfl) rfl rfl 0 (by exact Nat.le_refl _) (by exact Nat.zero_le _) trivial ⟨?_, rfl⟩
              first
                | rfl
                | (refine bool_eq ?_; rw [compare_names, cmpS_lt]; exact beq_self_eq_true _)
            · try simp only [Z.a, Z.b, Z.c, Z.d, Z.e, Z.f, Z.g, Z.h, Z.i, Z.j, Z.k, Z.l, Z.m] at h13
              exact absurd (compare_more s t ks _) h13
          · try simp only [Z.a, Z.b, Z.c, Z.d, Z.e, Z.f, Z.g, Z.h, Z.i, Z.j, Z.k, Z.l, Z.m] at h12
            exfalso
            rw [compare_nn, cmpI_lt] at h12
            exact absurd rfl h12
        · try simp only [Z.a, Z.b, Z.c, Z.d, Z.e, Z.f, Z.g, Z.h, Z.i, Z.j, Z.k, Z.l, Z.m] at h11
          exact absurd (compare_nf n s ks) h11
      · try simp only [Z.a, Z.b, Z.c, Z.d, Z.e, Z.f, Z.g, Z.h, Z.i, Z.j, Z.k, Z.l, Z.m] at h10
        exact absurd (compare_vn v n) h10
end Go.Proofs.Ythpiggjclhnkcaa.AM
