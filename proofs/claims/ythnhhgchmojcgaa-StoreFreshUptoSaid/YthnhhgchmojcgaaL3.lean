import Derived.Test.YthnhhgchmojcgaaL0
import Derived.Test.YthnhhgchmojcgaaE1
namespace Go.Proofs.Ythnhhgchmojcgaa.AM
open Go
set_option linter.unusedVariables false
set_option linter.unusedSimpArgs false
theorem storeFresh_fn (l : List Int) (g1 : l.length ≤ 2 ^ 20) (g1' : ∀ n ∈ l, 0 ≤ n ∧ n ≤ 65535) : Fn Try.prog 4 [.d (.list (l.map (D.int .u16)))] [] (.d (.bool true)) [] := by
  have hll : (l.map (D.int .u16)).length = l.length := List.length_map _
  refine Does.run Try.func4 rfl Try.ntmps4 rfl fun K hK => ?_
  refine Runs.rseq ?_
  refine RO.opv (v' := .d (.bool false)) (opv_assign rfl) rfl ?_
  refine RO.nil ?_
  refine Runs.rseq ?_
  refine RO.opv (v' := .d (.bool true)) (opv_callF (shown_fn) rfl rfl rfl trivial) rfl ?_
  refine RO.opv (v' := .d (.bool true)) (opv_assign rfl) rfl ?_
  refine RO.nil ?_
  refine Runs.has [(0, .d (.list _)), (2, .d (.bool false)), (3, .d (.bool true))] ⟨rfl, rfl, rfl, trivial⟩ ?_
  refine Runs.rseq ?_
  refine RO.opn (v' := .ref 2 0) (O' := [_, _, _]) (opv_callN 0 (new_fn) rfl rfl rfl) rfl rfl ?_
  refine RO.opv (v' := .ref 2 0) (opv_assign rfl) rfl ?_
  refine RO.nil ?_
  refine Runs.has [(0, .d (.list _)), (2, .d (.bool false)), (3, .d (.bool true)), (4, .ref 2 0)] ⟨rfl, rfl, rfl, rfl, trivial⟩ ?_
  refine Runs.seq ?_
  refine Runs.rseq ?_
  refine RO.opv (v' := .ref 2 0) (opv_move rfl) rfl ?_
  refine RO.opv (v' := .d (.bool false)) (opv_eqnil_ref rfl rfl rfl) rfl ?_
  refine RO.nil ?_
  refine Runs.condF rfl ?_
  refine Runs.skip ?_
  refine thenQ_normal ?_
  refine Runs.has [(0, .d (.list _)), (2, .d (.bool false)), (3, .d (.bool true)), (4, .ref 2 0)] ⟨rfl, rfl, rfl, rfl, trivial⟩ ?_
  refine Runs.rseq ?_
  refine RO.opv (v' := .d (.int _ _)) (opv_assign rfl) rfl ?_
  refine RO.nil ?_
  refine Runs.seq ?_
  refine Runs.rseq ?_
  refine RO.opv (v' := .d (.int _ _)) (opv_assign rfl) rfl ?_
  refine RO.nil ?_
  refine Runs.block ?_
  refine Runs.loopC (X := (Nat × Int × St)) (fun x => x.1 ≤ l.length ∧ 0 ≤ x.2.1 ∧ x.2.1 ≤ 4096 ∧ (x.2.2.cs.length : Int) = x.2.1 ∧ x.2.2.Ok (2 ^ 20)) (fun x => l.length - x.1) [(0, .d (.list _)), (3, .d (.bool true)), (4, .ref 2 0)] (fun x => [(5, .d (.int .i64 x.2.1)), (6, .d (.int .i64 (x.1 : Nat)))]) [] (fun x => [.buf 62 5 (encCells (x.2.2).cs) (x.2.2).v1, .buf 3 1 (ints (x.2.2).tr) (x.2.2).v2, .cells [.own 0 (x.2.2).v1, .own 1 (x.2.2).v2]]) (((0 : Nat), (0 : Int), e0)) ⟨rfl, rfl, rfl, trivial⟩ ⟨rfl, rfl, trivial⟩ rfl ⟨Nat.zero_le _, Int.le_refl _, by show (0 : Int) ≤ 4096; decide, rfl, e0_ok⟩ fun x hi => ?_
  refine Runs.seq ?_
  refine Runs.rseq ?_
  refine RO.opv (v' := .d (.int _ _)) (opv_move rfl) rfl ?_
  refine RO.opv (v' := .d (.list _)) (opv_move rfl) rfl ?_
  refine RO.opv (v' := .d (.int _ _)) (opv_len rfl rfl rfl) rfl ?_
  refine RO.opv (v' := .d (.bool _)) (opv_bin rfl rfl rfl) rfl ?_
  refine RO.opc (opv_move rfl) (fun h1 => ?_) (fun h1 => ?_)
  · skip
    have hk : x.1 < l.length := by have := of_decide_eq_true h1; omega
    have hg := g1' (l[x.1]'hk) (List.getElem_mem hk)
    obtain ⟨nn, hnn⟩ : ∃ nn, nn = (l[x.1]'hk).tmod 600 := ⟨_, rfl⟩
    have hn0 : 0 ≤ nn := by rw [hnn]; exact Int.tmod_nonneg _ hg.1
    have hn1 : nn < 600 := by rw [hnn]; exact Int.tmod_lt_of_pos _ (by decide)
    obtain ⟨hi1, hi2, hi3, hi4, hi5⟩ := hi
    have hi := (⟨hi1, hi2, hi3, hi4, hi5⟩ : x.1 ≤ l.length ∧ 0 ≤ x.2.1 ∧ x.2.1 ≤ 4096 ∧ (x.2.2.cs.length : Int) = x.2.1 ∧ x.2.2.Ok (2 ^ 20))
    have hok := hi5.fresh nn
    have hw : IntKind.i64.wrap ((l[x.1]'hk).tmod 600) = nn := by rw [← hnn]; exact wrap64 (by omega) (by omega)
    refine RO.opgv (v' := .d (.int _ _)) rfl (opv_move rfl) rfl ?_
    refine RO.opgv (v' := .d (.bool _)) rfl (opv_bin rfl rfl rfl) rfl ?_
    refine RO.opc (opv_pick rfl rfl) (fun h2 => ?_) (fun h2 => ?_)
    · skip
      refine RO.nil ?_
      refine Runs.condT rfl ?_
      refine Runs.skip ?_
      refine thenQ_normal ?_
      refine Runs.has [(0, .d (.list _)), (3, .d (.bool true)), (4, .ref 2 0), (5, .d (.int _ _)), (6, .d (.int _ _))] ⟨rfl, rfl, rfl, rfl, rfl, trivial⟩ ?_
      refine Runs.seq ?_
      refine Runs.block ?_
      refine Runs.rseq ?_
      refine RO.opv (v' := .d (.list _)) (opv_move rfl) rfl ?_
      refine RO.opv (v' := .d (.int _ _)) (opv_move rfl) rfl ?_
      refine RO.opv (v' := .d (.ptr _)) (opv_index_list (y := .int .u16 (l[x.1]'hk)) rfl rfl (Int.natCast_nonneg _) (by simp [hk]) rfl) rfl ?_
      refine RO.opv (v' := .d (.int _ _)) (opv_load_ptr rfl rfl) rfl ?_
      refine RO.opv (v' := .d (.int _ _)) (opv_bin rfl rfl rfl) rfl ?_
      refine RO.opv (v' := .d (.int _ _)) (opv_conv rfl rfl) rfl ?_
      refine RO.opv (v' := .d (.int _ _)) (opv_assign (int_eq hw)) rfl ?_
      refine RO.nil ?_
      refine Runs.has [(0, .d (.list _)), (3, .d (.bool true)), (4, .ref 2 0), (5, .d (.int _ _)), (6, .d (.int _ _)), (7, .d (.int _ _))] ⟨rfl, rfl, rfl, rfl, rfl, rfl, trivial⟩ ?_
      refine Runs.rseq ?_
      refine RO.opv (v' := .ref 2 0) (opv_move rfl) rfl ?_
      refine RO.opv (v' := .d (.int _ _)) (opv_move rfl) rfl ?_
      refine RO.opn (O' := [_, _, _]) (opv_callS 0 3 (fresh_fn x.2.2 nn (hi.2.2.2.2.len)) rfl rfl rfl (Nat.le_of_ble_eq_true rfl) rfl (AV.bds_of_B _ rfl)) rfl rfl ?_
      refine RO.opv (opv_move rfl) rfl ?_
      refine RO.opv (v' := .d (.int _ _)) (opv_extract rfl rfl) rfl ?_
      refine RO.opv (v' := .d (.int _ _)) (opv_extract rfl rfl) rfl ?_
      refine RO.opv (v' := .d (.int _ _)) (opv_assign rfl) rfl ?_
      refine RO.opv (v' := .d (.int _ _)) (opv_assign rfl) rfl ?_
      refine RO.nil ?_
      refine Runs.has [(0, .d (.list _)), (3, .d (.bool true)), (4, .ref 2 0), (5, .d (.int _ _)), (6, .d (.int _ _)), (7, .d (.int _ _)), (8, .d (.int _ _)), (9, .d (.int _ _))] ⟨rfl, rfl, rfl, rfl, rfl, rfl, rfl, rfl, trivial⟩ ?_
      refine Runs.seq ?_
      refine Runs.rseq ?_
      refine RO.opv (v' := .d (.int _ _)) (opv_move rfl) rfl ?_
      refine RO.opv (v' := .d (.int _ _)) (opv_move rfl) rfl ?_
      refine RO.opv (v' := .d (.int _ _)) (opv_arith rfl rfl (binD_add (r := x.2.1 + nn) (by refine (wrap64 ?_ ?_).trans ?_ <;> omega))) rfl ?_
      refine RO.opc (opv_bin rfl rfl rfl) (fun h3 => ?_) (fun h3 => ?_)
      · skip
        have hff := fresh_full (s := x.2.2) hn0 (by have := of_decide_eq_true h3; omega)
        refine RO.nil ?_
        refine Runs.condT rfl ?_
        refine Runs.has [(0, .d (.list _)), (3, .d (.bool true)), (4, .ref 2 0), (5, .d (.int _ _)), (6, .d (.int _ _)), (7, .d (.int _ _)), (8, .d (.int _ _)), (9, .d (.int _ _))] ⟨rfl, rfl, rfl, rfl, rfl, rfl, rfl, rfl, trivial⟩ ?_
        refine Runs.seq ?_
        refine Runs.rseq ?_
        refine RO.opv (v' := .d (.int _ _)) (opv_move rfl) rfl ?_
        refine RO.opv (v' := .d (.bool _)) (opv_bin rfl rfl rfl) rfl ?_
        refine RO.opc (opv_move rfl) (fun h4 => ?_) (fun h4 => ?_)
        · skip
          rw [hff] at h4; simp at h4
        · skip
          refine RO.opgv (v' := .d (.int _ _)) rfl (opv_move rfl) rfl ?_
          refine RO.opgv (v' := .d (.bool _)) rfl (opv_bin rfl rfl rfl) rfl ?_
          refine RO.opc (opv_pick rfl rfl) (fun h5 => ?_) (fun h5 => ?_)
          · skip
            rw [hff] at h5; simp at h5
          · skip
            refine RO.nil ?_
            refine Runs.condF rfl ?_
            refine Runs.skip ?_
            refine thenQ_normal ?_
            refine Runs.exit ?_
            refine thenQ_exit ?_
            refine blockQ_here ?_
            refine thenQ_normal ?_
            refine Runs.has [(0, .d (.list _)), (3, .d (.bool true)), (4, .ref 2 0), (5, .d (.int _ _)), (6, .d (.int _ _))] ⟨rfl, rfl, rfl, rfl, rfl, trivial⟩ ?_
            refine Runs.region ?_
            refine RO.opv (v' := .d (.int _ _)) (opv_move rfl) rfl ?_
            refine RO.opv (v' := .d (.int _ _)) (opv_arith rfl rfl (binD_add (r := ((x.1 + 1 : Nat) : Int)) (by refine (wrap64 ?_ ?_).trans ?_ <;> omega))) rfl ?_
            refine RO.opv (v' := .d (.int _ _)) (opv_assign rfl) rfl ?_
            refine RO.nil ?_
            refine thenQ_normal ?_
            refine ⟨(x.1 + 1, x.2.1, (x.2.2.fresh nn).1), 3, (by rw [hK]; exact Nat.le_of_ble_eq_true rfl), ⟨rfl, rfl, rfl, trivial⟩, ⟨?_, ?_, trivial⟩, rfl, ?_, ?_⟩
            · rfl
            · rfl
            · exact ⟨hk, hi2, hi3, by show ((x.2.2.fresh nn).1.cs.length : Int) = x.2.1; rw [hff]; exact hi4, hok⟩
            · show l.length - (x.1 + 1) < _; omega
      · skip
        have hle : x.2.1 + nn ≤ 4096 := by have := of_decide_eq_false h3; omega
        have hff := fresh_ok (s := x.2.2) hn0 (by omega)
        have hfl := fresh_len (s := x.2.2) hn0 (by omega)
        refine RO.nil ?_
        refine Runs.condF rfl ?_
        refine Runs.skip ?_
        refine thenQ_normal ?_
        refine Runs.has [(0, .d (.list _)), (3, .d (.bool true)), (4, .ref 2 0), (5, .d (.int _ _)), (6, .d (.int _ _)), (7, .d (.int _ _)), (8, .d (.int _ _)), (9, .d (.int _ _))] ⟨rfl, rfl, rfl, rfl, rfl, rfl, rfl, rfl, trivial⟩ ?_
        refine Runs.seq ?_
        refine Runs.rseq ?_
        refine RO.opv (v' := .d (.int _ _)) (opv_move rfl) rfl ?_
        refine RO.opv (v' := .d (.bool _)) (opv_bin rfl rfl rfl) rfl ?_
        refine RO.opc (opv_move rfl) (fun h6 => ?_) (fun h6 => ?_)
        · skip
          rw [hff] at h6; simp at h6
        · skip
          refine RO.opgv (v' := .d (.int _ _)) rfl (opv_move rfl) rfl ?_
          refine RO.opgv (v' := .d (.int _ _)) rfl (opv_move rfl) rfl ?_
          refine RO.opgv (v' := .d (.bool _)) rfl (opv_bin rfl rfl rfl) rfl ?_
          refine RO.opc (opv_pick rfl rfl) (fun h7 => ?_) (fun h7 => ?_)
          · skip
            rw [hff] at h7; simp [hi4] at h7
          · skip
            refine RO.nil ?_
            refine Runs.condF rfl ?_
            refine Runs.skip ?_
            refine thenQ_normal ?_
            refine Runs.has [(0, .d (.list _)), (3, .d (.bool true)), (4, .ref 2 0), (5, .d (.int _ _)), (6, .d (.int _ _)), (7, .d (.int _ _))] ⟨rfl, rfl, rfl, rfl, rfl, rfl, trivial⟩ ?_
            refine Runs.rseq ?_
            refine RO.opv (v' := .d (.int _ _)) (opv_move rfl) rfl ?_
            refine RO.opv (v' := .d (.int _ _)) (opv_move rfl) rfl ?_
            refine RO.opv (v' := .d (.int _ _)) (opv_arith rfl rfl (binD_add (r := x.2.1 + nn) (by refine (wrap64 ?_ ?_).trans ?_ <;> omega))) rfl ?_
            refine RO.opv (v' := .d (.int _ _)) (opv_assign rfl) rfl ?_
            refine RO.nil ?_
            refine Runs.has [(0, .d (.list _)), (3, .d (.bool true)), (4, .ref 2 0), (5, .d (.int _ _)), (6, .d (.int _ _)), (7, .d (.int _ _))] ⟨rfl, rfl, rfl, rfl, rfl, rfl, trivial⟩ ?_
            refine Runs.rseq ?_
            refine RO.opv (v' := .d (.int _ _)) (opv_move rfl) rfl ?_
            refine RO.opv (v' := .d (.bool _)) (opv_bin rfl rfl rfl) rfl ?_
            refine RO.opc (opv_move rfl) (fun h8 => ?_) (fun h8 => ?_)
            · skip
              have hn2 : 0 < nn := by have := of_decide_eq_true h8; omega
              have hfr := fresh_free (s := x.2.2) (k := nn) (n := x.2.1 + nn - 1) (by omega)
              have hwk : (x.2.2.fresh nn).1.wk (lets (x.2.1 + nn - 1)) = lets (x.2.1 + nn - 1) := wk_none (by rw [look_lets, hfr])
              have hbf := bind_free (t := .node 2 1 ⟨#[]⟩ []) (v := x.2.1 + nn - 1) (by omega) (by omega) hfr (has_num _ _ _ _)
              refine RO.opgv (v' := .ref 2 0) rfl (opv_move rfl) rfl ?_
              refine RO.opgv (v' := .d (.int _ _)) rfl (opv_move rfl) rfl ?_
              refine RO.opgv (v' := .d (.int _ _)) rfl (opv_arith rfl rfl (binD_sub (r := x.2.1 + nn - 1) (by refine (wrap64 ?_ ?_).trans ?_ <;> omega))) rfl ?_
              refine RO.opgv (v' := .d (enc _)) rfl (opv_callF (let_fn (x.2.1 + nn - 1)) rfl rfl rfl trivial) rfl ?_
              refine RO.opgn (v' := .d (enc _)) (O' := [_, _, _]) rfl (opv_callS 0 3 (wk_fn (x.2.2.fresh nn).1 (lets (x.2.1 + nn - 1)) (hok.ends _)) rfl rfl rfl (Nat.le_of_ble_eq_true rfl) rfl (AV.bds_of_B _ rfl)) rfl rfl ?_
              refine RO.opgv (v' := .d (.int _ _)) rfl (opv_move rfl) rfl ?_
              refine RO.opgv (v' := .d (.int _ _)) rfl (opv_arith rfl rfl (binD_sub (r := x.2.1 + nn - 1) (by refine (wrap64 ?_ ?_).trans ?_ <;> omega))) rfl ?_
              refine RO.opgv (v' := .d (enc _)) rfl (opv_callF (let_fn (x.2.1 + nn - 1)) rfl rfl rfl trivial) rfl ?_
              refine RO.opgv (v' := .d (.bool _)) rfl (opv_callF (same_fn ((x.2.2.fresh nn).1.wk (lets (x.2.1 + nn - 1))) (lets (x.2.1 + nn - 1)) (by rw [hwk]; simp only [lets, Term.bulk, bulks]; exact Nat.le_of_ble_eq_true rfl) (by simp only [lets, Term.bulk, bulks]; exact Nat.le_of_ble_eq_true rfl)) rfl rfl rfl trivial) rfl ?_
              refine RO.opgv (v' := .d (.bool _)) rfl (opv_not rfl rfl) rfl ?_
              refine RO.opgc rfl (opv_move rfl) (fun h9 => ?_) (fun h9 => ?_)
              · skip
                rw [hwk, same_refl] at h9; cases h9
              · skip
                refine RO.opgv (v' := .ref 2 0) rfl (opv_move rfl) rfl ?_
                refine RO.opgv (v' := .d (.int _ _)) rfl (opv_move rfl) rfl ?_
                refine RO.opgv (v' := .d (.int _ _)) rfl (opv_arith rfl rfl (binD_sub (r := x.2.1 + nn - 1) (by refine (wrap64 ?_ ?_).trans ?_ <;> omega))) rfl ?_
                refine RO.opgv (v' := .d (enc _)) rfl (opv_callF (num_fn 1) rfl rfl rfl trivial) rfl ?_
                refine RO.opgn (v' := .d (.int _ _)) (O' := [_, _, _]) rfl (opv_callS 0 3 (bind_fn (x.2.2.fresh nn).1 (x.2.1 + nn - 1) (.node 2 1 ⟨#[]⟩ []) (hok.small' (Nat.le_of_ble_eq_true rfl)) (by show 0 + 0 + 1 ≤ _; exact Nat.le_of_ble_eq_true rfl) (Nat.le_trans hok.len (Nat.le_of_ble_eq_true rfl)) (Nat.lt_of_le_of_lt hok.trl (Nat.lt_of_sub_pos (by decide)))) rfl rfl rfl (Nat.le_of_ble_eq_true rfl) rfl (AV.bds_of_B _ rfl)) rfl rfl ?_
                refine RO.opgv (v' := .d (.bool _)) rfl (opv_bin rfl rfl rfl) rfl ?_
                refine RO.opgv (v' := .d (.bool _)) rfl (opv_pick rfl rfl) rfl ?_
                refine RO.opc (opv_pick rfl rfl) (fun h10 => ?_) (fun h10 => ?_)
                · skip
                  rw [hbf.1] at h10; simp at h10
                · skip
                  refine RO.nil ?_
                  refine Runs.condF rfl ?_
                  refine Runs.skip ?_
                  refine blockQ_normal ?_
                  refine thenQ_normal ?_
                  refine Runs.has [(0, .d (.list _)), (3, .d (.bool true)), (4, .ref 2 0), (5, .d (.int _ _)), (6, .d (.int _ _))] ⟨rfl, rfl, rfl, rfl, rfl, trivial⟩ ?_
                  refine Runs.region ?_
                  refine RO.opv (v' := .d (.int _ _)) (opv_move rfl) rfl ?_
                  refine RO.opv (v' := .d (.int _ _)) (opv_arith rfl rfl (binD_add (r := ((x.1 + 1 : Nat) : Int)) (by refine (wrap64 ?_ ?_).trans ?_ <;> omega))) rfl ?_
                  refine RO.opv (v' := .d (.int _ _)) (opv_assign rfl) rfl ?_
                  refine RO.nil ?_
                  refine thenQ_normal ?_
                  refine ⟨(x.1 + 1, x.2.1 + nn, ((x.2.2.fresh nn).1.bind (x.2.1 + nn - 1) (.node 2 1 ⟨#[]⟩ [])).1), 3, (by rw [hK]; exact Nat.le_of_ble_eq_true rfl), ⟨rfl, rfl, rfl, trivial⟩, ⟨?_, ?_, trivial⟩, rfl, ?_, ?_⟩
                  · rfl
                  · rfl
                  · exact ⟨hk, by show 0 ≤ x.2.1 + nn; omega, hle, by show ((((x.2.2.fresh nn).1.bind _ _).1.cs.length : Nat) : Int) = _; rw [bind_len, hfl, hi4], hok.bind _ _ (by show 0 + 0 + 1 ≤ _; exact Nat.le_of_ble_eq_true rfl)⟩
                  · show l.length - (x.1 + 1) < _; omega
            · skip
              skip
              refine RO.off rfl ?_
              refine RO.off rfl ?_
              refine RO.off rfl ?_
              refine RO.off rfl ?_
              refine RO.off rfl ?_
              refine RO.off rfl ?_
              refine RO.off rfl ?_
              refine RO.off rfl ?_
              refine RO.off rfl ?_
              refine RO.off rfl ?_
              refine RO.off rfl ?_
              refine RO.off rfl ?_
              refine RO.off rfl ?_
              refine RO.off rfl ?_
              refine RO.off rfl ?_
              refine RO.off rfl ?_
              refine RO.off rfl ?_
              refine RO.off rfl ?_
              refine RO.opv (v' := .d (.bool false)) (opv_pick rfl rfl) rfl ?_
              refine RO.nil ?_
              refine Runs.condF rfl ?_
              refine Runs.skip ?_
              refine blockQ_normal ?_
              refine thenQ_normal ?_
              refine Runs.has [(0, .d (.list _)), (3, .d (.bool true)), (4, .ref 2 0), (5, .d (.int _ _)), (6, .d (.int _ _))] ⟨rfl, rfl, rfl, rfl, rfl, trivial⟩ ?_
              refine Runs.region ?_
              refine RO.opv (v' := .d (.int _ _)) (opv_move rfl) rfl ?_
              refine RO.opv (v' := .d (.int _ _)) (opv_arith rfl rfl (binD_add (r := ((x.1 + 1 : Nat) : Int)) (by refine (wrap64 ?_ ?_).trans ?_ <;> omega))) rfl ?_
              refine RO.opv (v' := .d (.int _ _)) (opv_assign rfl) rfl ?_
              refine RO.nil ?_
              refine thenQ_normal ?_
              refine ⟨(x.1 + 1, x.2.1 + nn, (x.2.2.fresh nn).1), 3, (by rw [hK]; exact Nat.le_of_ble_eq_true rfl), ⟨rfl, rfl, rfl, trivial⟩, ⟨?_, ?_, trivial⟩, rfl, ?_, ?_⟩
              · rfl
              · rfl
              · exact ⟨hk, by show 0 ≤ x.2.1 + nn; omega, hle, by show (((x.2.2.fresh nn).1.cs.length : Nat) : Int) = _; rw [hfl, hi4], hok⟩
              · show l.length - (x.1 + 1) < _; omega
    · skip
      refine RO.nil ?_
      refine Runs.condF rfl ?_
      refine Runs.exit ?_
      refine thenQ_exit ?_
      refine thenQ_exit ?_
      refine blockQ_here ?_
      refine thenQ_normal ?_
      refine Runs.has [(3, .d (.bool true)), (4, .ref 2 0), (5, .d (.int _ _))] ⟨rfl, rfl, rfl, trivial⟩ ?_
      refine Runs.rseq ?_
      refine RO.opv (v' := .ref 2 0) (opv_move rfl) rfl ?_
      refine RO.opn (O' := [_, _, _]) (opv_callS 0 3 (fresh_fn x.2.2 (-1) (hi.2.2.2.2.len)) rfl rfl rfl (Nat.le_of_ble_eq_true rfl) rfl (AV.bds_of_B _ rfl)) rfl rfl ?_
      refine RO.opv (opv_move rfl) rfl ?_
      refine RO.opv (v' := .d (.int _ _)) (opv_extract rfl rfl) rfl ?_
      refine RO.opv (v' := .d (.int _ _)) (opv_extract rfl rfl) rfl ?_
      refine RO.opv (v' := .d (.int _ _)) (opv_assign rfl) rfl ?_
      refine RO.opv (v' := .d (.int _ _)) (opv_assign rfl) rfl ?_
      refine RO.nil ?_
      refine Runs.has [(3, .d (.bool true)), (4, .ref 2 0), (5, .d (.int _ _)), (11, .d (.int _ _))] ⟨rfl, rfl, rfl, rfl, trivial⟩ ?_
      refine Runs.rseq ?_
      refine RO.opv (v' := .d (.bool true)) (opv_move rfl) rfl ?_
      refine RO.opv (v' := .d (.bool true)) (opv_move rfl) rfl ?_
      refine RO.opgv (v' := .d (.int _ _)) rfl (opv_move rfl) rfl ?_
      refine RO.opgv (v' := .d (.bool _)) rfl (opv_bin rfl rfl rfl) rfl ?_
      refine RO.opv (v' := .d (.bool _)) (opv_pick rfl rfl) rfl ?_
      refine RO.opc (opv_move rfl) (fun h11 => ?_) (fun h11 => ?_)
      · skip
        refine RO.opgv (v' := .ref 2 0) rfl (opv_move rfl) rfl ?_
        refine RO.opgv (v' := .d (.int _ _)) rfl (opv_move rfl) rfl ?_
        refine RO.opgv (v' := .d (enc _)) rfl (opv_callF (num_fn 1) rfl rfl rfl trivial) rfl ?_
        refine RO.opgn (v' := .d (.int _ _)) (O' := [_, _, _]) rfl (opv_callS 0 3 (bind_fn (x.2.2.fresh (-1)).1 x.2.1 (.node 2 1 ⟨#[]⟩ []) ((hi.2.2.2.2.fresh (-1)).small' (Nat.le_of_ble_eq_true rfl)) (by show 0 + 0 + 1 ≤ _; exact Nat.le_of_ble_eq_true rfl) (Nat.le_trans (hi.2.2.2.2.fresh (-1)).len (Nat.le_of_ble_eq_true rfl)) (Nat.lt_of_le_of_lt (hi.2.2.2.2.fresh (-1)).trl (Nat.lt_of_sub_pos (by decide)))) rfl rfl rfl (Nat.le_of_ble_eq_true rfl) rfl (AV.bds_of_B _ rfl)) rfl rfl ?_
        refine RO.opgv (v' := .d (.bool _)) rfl (opv_bin rfl rfl rfl) rfl ?_
        refine RO.opv (v' := .d (.bool _)) (opv_pick rfl rfl) rfl ?_
        refine RO.opv (v' := .d (.bool _)) (opv_assign rfl) rfl ?_
        refine RO.nil ?_
        refine Runs.ret ?_
        refine EndQ.tmp (.inr rfl) rfl rfl 0 (by exact Nat.le_refl _) (by exact Nat.zero_le _) trivial ⟨?_, rfl⟩
        refine bool_eq ?_; rw [bind_far (by have := hi.2.2.2.1; simp [St.fresh]; omega)]; rfl
      · skip
        simp [St.fresh] at h11
  · skip
    skip
    refine RO.off rfl ?_
    refine RO.off rfl ?_
    refine RO.opv (v' := .d (.bool false)) (opv_pick rfl rfl) rfl ?_
    refine RO.nil ?_
    refine Runs.condF rfl ?_
    refine Runs.exit ?_
    refine thenQ_exit ?_
    refine thenQ_exit ?_
    refine blockQ_here ?_
    refine thenQ_normal ?_
    refine Runs.has [(3, .d (.bool true)), (4, .ref 2 0), (5, .d (.int _ _))] ⟨rfl, rfl, rfl, trivial⟩ ?_
    refine Runs.rseq ?_
    refine RO.opv (v' := .ref 2 0) (opv_move rfl) rfl ?_
    refine RO.opn (O' := [_, _, _]) (opv_callS 0 3 (fresh_fn x.2.2 (-1) (hi.2.2.2.2.len)) rfl rfl rfl (Nat.le_of_ble_eq_true rfl) rfl (AV.bds_of_B _ rfl)) rfl rfl ?_
    refine RO.opv (opv_move rfl) rfl ?_
    refine RO.opv (v' := .d (.int _ _)) (opv_extract rfl rfl) rfl ?_
    refine RO.opv (v' := .d (.int _ _)) (opv_extract rfl rfl) rfl ?_
    refine RO.opv (v' := .d (.int _ _)) (opv_assign rfl) rfl ?_
    refine RO.opv (v' := .d (.int _ _)) (opv_assign rfl) rfl ?_
    refine RO.nil ?_
    refine Runs.has [(3, .d (.bool true)), (4, .ref 2 0), (5, .d (.int _ _)), (11, .d (.int _ _))] ⟨rfl, rfl, rfl, rfl, trivial⟩ ?_
    refine Runs.rseq ?_
    refine RO.opv (v' := .d (.bool true)) (opv_move rfl) rfl ?_
    refine RO.opv (v' := .d (.bool true)) (opv_move rfl) rfl ?_
    refine RO.opgv (v' := .d (.int _ _)) rfl (opv_move rfl) rfl ?_
    refine RO.opgv (v' := .d (.bool _)) rfl (opv_bin rfl rfl rfl) rfl ?_
    refine RO.opv (v' := .d (.bool _)) (opv_pick rfl rfl) rfl ?_
    refine RO.opc (opv_move rfl) (fun h12 => ?_) (fun h12 => ?_)
    · skip
      refine RO.opgv (v' := .ref 2 0) rfl (opv_move rfl) rfl ?_
      refine RO.opgv (v' := .d (.int _ _)) rfl (opv_move rfl) rfl ?_
      refine RO.opgv (v' := .d (enc _)) rfl (opv_callF (num_fn 1) rfl rfl rfl trivial) rfl ?_
      refine RO.opgn (v' := .d (.int _ _)) (O' := [_, _, _]) rfl (opv_callS 0 3 (bind_fn (x.2.2.fresh (-1)).1 x.2.1 (.node 2 1 ⟨#[]⟩ []) ((hi.2.2.2.2.fresh (-1)).small' (Nat.le_of_ble_eq_true rfl)) (by show 0 + 0 + 1 ≤ _; exact Nat.le_of_ble_eq_true rfl) (Nat.le_trans (hi.2.2.2.2.fresh (-1)).len (Nat.le_of_ble_eq_true rfl)) (Nat.lt_of_le_of_lt (hi.2.2.2.2.fresh (-1)).trl (Nat.lt_of_sub_pos (by decide)))) rfl rfl rfl (Nat.le_of_ble_eq_true rfl) rfl (AV.bds_of_B _ rfl)) rfl rfl ?_
      refine RO.opgv (v' := .d (.bool _)) rfl (opv_bin rfl rfl rfl) rfl ?_
      refine RO.opv (v' := .d (.bool _)) (opv_pick rfl rfl) rfl ?_
      refine RO.opv (v' := .d (.bool _)) (opv_assign rfl) rfl ?_
      refine RO.nil ?_
      refine Runs.ret ?_
      refine EndQ.tmp (.inr rfl) rfl rfl 0 (by exact Nat.le_refl _) (by exact Nat.zero_le _) trivial ⟨?_, rfl⟩
      refine bool_eq ?_; rw [bind_far (by have := hi.2.2.2.1; simp [St.fresh]; omega)]; rfl
    · skip
      simp [St.fresh] at h12
theorem storeFresh_row (l : List Int) (g1 : sumN (fun _ => 1) l ≤ 2 ^ 20) (g2 : ∀ n ∈ l, (Lit.int .u16 n).wf = true) : Fn Try.prog 4 [.d (.list (l.map (D.int .u16)))] [] (.d (.bool true)) [] :=
  storeFresh_fn l (Nat.le_trans (sumN_len (fun _ => Nat.le_refl _) l) g1) (fun n hn => by simpa [Lit.wf, IntKind.min, IntKind.max, IntKind.signed, IntKind.bits] using g2 n hn)
end Go.Proofs.Ythnhhgchmojcgaa.AM
