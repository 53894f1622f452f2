import Derived.Test.YthpiggjclhnkcaaL0
import Derived.Test.YthpiggjclhnkcaaAg
namespace Go.Proofs.Ythpiggjclhnkcaa.AM
open Go
set_option linter.unusedVariables false
set_option linter.unusedSimpArgs false
theorem orderSorts_fn (l : List Term) (g1 : bulks l ≤ 2 ^ 20) (_g1' : fitss l) : Fn Try.prog 9 [.d (.list (encs l))] [] (.d (.bool true)) [] := by
  have hL := bulks_len l
  have hbk : ∀ x ∈ l, x.bulk ≤ 2 ^ 30 := fun x hx => by have := bulks_mem hx; omega
  have hsb := sortR_bulk l
  have hsl := sortR_le l
  refine Does.run Try.func9 rfl Try.ntmps9 rfl fun K hK => ?_
  refine Runs.rseq ?_
  refine RO.opv (v' := .d (.bool false)) (opv_assign rfl) rfl ?_
  refine RO.nil ?_
  refine Runs.rseq ?_
  refine RO.opv (v' := .d (.bool true)) (opv_callF (shown_fn) rfl rfl rfl trivial) rfl ?_
  refine RO.opv (v' := .d (.bool true)) (opv_assign rfl) rfl ?_
  refine RO.nil ?_
  refine Runs.has [(0, .d (.list (encs _))), (2, .d (.bool false)), (3, .d (.bool true))] ⟨rfl, rfl, rfl, trivial⟩ ?_
  refine Runs.seq ?_
  refine Runs.rseq ?_
  refine RO.opv (v' := .d (.list (encs _))) (opv_move rfl) rfl ?_
  refine RO.opv (v' := .d (.int _ _)) (opv_len_terms rfl) rfl ?_
  refine RO.opc (opv_bin rfl rfl rfl) (fun h1 => ?_) (fun h1 => ?_)
  · try simp only [Z.a, Z.b, Z.c, Z.d, Z.e, Z.f, Z.g, Z.h, Z.i, Z.j, Z.k, Z.l, Z.m] at h1
    skip
    refine RO.nil ?_
    refine Runs.condT rfl ?_
    refine Runs.has [(0, .d (.list (encs _))), (2, .d (.bool false)), (3, .d (.bool true))] ⟨rfl, rfl, rfl, trivial⟩ ?_
    refine Runs.rseq ?_
    refine RO.opv (v' := .d (.bool true)) (opv_move rfl) rfl ?_
    refine RO.opv (v' := .d (.bool true)) (opv_assign rfl) rfl ?_
    refine RO.nil ?_
    refine Runs.ret ?_
    refine thenQ_ret ?_
    refine EndQ.tmp (.inr rfl) rfl rfl 0 (by exact Nat.le_refl _) (by exact Nat.zero_le _) trivial ⟨?_, rfl⟩
    first
      | rfl
      | (refine bool_eq ?_; rw [sortR_again]; exact (sames_iff _ _).2 rfl)
  · try simp only [Z.a, Z.b, Z.c, Z.d, Z.e, Z.f, Z.g, Z.h, Z.i, Z.j, Z.k, Z.l, Z.m] at h1
    have hn : l.length ≤ 30 := by omega
    refine RO.nil ?_
    refine Runs.condF rfl ?_
    refine Runs.skip ?_
    refine thenQ_normal ?_
    refine Runs.has [(0, .d (.list (encs _))), (2, .d (.bool false)), (3, .d (.bool true))] ⟨rfl, rfl, rfl, trivial⟩ ?_
    refine Runs.rseq ?_
    refine RO.opv (v' := .nil0) (opv_assign rfl) rfl ?_
    refine RO.nil ?_
    refine Runs.seq ?_
    refine Runs.adopt 4 24 4 rfl ?_
    refine Runs.rseq ?_
    refine RO.opv (v' := .d (.list (encs _))) (opv_move rfl) rfl ?_
    refine RO.opv (v' := .d (.int _ _)) (opv_len_terms rfl) rfl ?_
    refine RO.opv (v' := .d (.int _ _)) (opv_arith (r := ((l.length : Nat) : Int) - 1) rfl rfl (by simp only [binD, if_true]; rw [wrap64 (by omega) (by omega)])) rfl ?_
    refine RO.opv (v' := .d (.int _ _)) (opv_assign rfl) rfl ?_
    refine RO.nil ?_
    refine Runs.block ?_
    refine Runs.loopC (X := (Nat × Nat)) (fun y => y.1 + y.2 = l.length ∧ ∀ x ∈ l.drop y.1, x.check 16 = 0) (fun y => y.1) [(0, .d (.list (encs _))), (3, .d (.bool true))] (fun y => [(4, .own 0 (1 + y.2)), (5, .d (.int .i64 (((y.1 : Nat) : Int) - 1)))]) [] (fun y => [.buf 24 4 (encs (l.drop y.1).reverse) (1 + y.2)]) ((l.length, 0)) ⟨rfl, rfl, trivial⟩ ⟨rfl, rfl, trivial⟩ (by rw [List.drop_length]; rfl) ⟨rfl, fun x hx => by rw [List.drop_length] at hx; cases hx⟩ fun y hy => ?_
    obtain ⟨y2, y3⟩ := hy
    refine Runs.seq ?_
    refine Runs.rseq ?_
    refine RO.opv (v' := .d (.int _ _)) (opv_move rfl) rfl ?_
    refine RO.opc (opv_bin rfl rfl rfl) (fun h2 => ?_) (fun h2 => ?_)
    · try simp only [Z.a, Z.b, Z.c, Z.d, Z.e, Z.f, Z.g, Z.h, Z.i, Z.j, Z.k, Z.l, Z.m] at h2
      obtain ⟨k, hk⟩ : ∃ k, y.1 = k + 1 := ⟨y.1 - 1, by omega⟩
      have hkl : k < l.length := by omega
      refine RO.nil ?_
      refine Runs.condT rfl ?_
      refine Runs.skip ?_
      refine thenQ_normal ?_
      refine Runs.has [(0, .d (.list (encs _))), (3, .d (.bool true)), (4, .own 0 _), (5, .d (.int _ _))] ⟨rfl, rfl, rfl, rfl, trivial⟩ ?_
      refine Runs.seq ?_
      refine Runs.block ?_
      refine Runs.seq ?_
      refine Runs.rseq ?_
      refine RO.opv (v' := .d (.list (encs _))) (opv_move rfl) rfl ?_
      refine RO.opv (v' := .d (.int _ _)) (opv_move (v := .d (.int .i64 ((k : Nat) : Int))) (by refine int_eq ?_; omega)) rfl ?_
      refine RO.opv (v' := .d (.ptr _)) (opv_index_terms rfl rfl (by omega)) rfl ?_
      refine RO.opv (v' := .d (enc _)) (opv_load_pterm rfl) rfl ?_
      refine RO.opv (v' := .d (.bool _)) (opv_callF (few_fn l[k] (by have := bulks_mem (List.getElem_mem (l := l) (n := k) (by omega)); omega)) rfl rfl rfl trivial) rfl ?_
      refine RO.opv (v' := .d (.bool _)) (opv_not rfl rfl) rfl ?_
      refine RO.opc (opv_move rfl) (fun h3 => ?_) (fun h3 => ?_)
      · try simp only [Z.a, Z.b, Z.c, Z.d, Z.e, Z.f, Z.g, Z.h, Z.i, Z.j, Z.k, Z.l, Z.m] at h3
        refine RO.off rfl ?_
        refine RO.off rfl ?_
        refine RO.off rfl ?_
        refine RO.off rfl ?_
        refine RO.off rfl ?_
        refine RO.off rfl ?_
        refine RO.opv (v' := .d (.bool true)) (opv_pick rfl rfl) rfl ?_
        refine RO.nil ?_
        refine Runs.condT rfl ?_
        refine Runs.has [(0, .d (.list (encs _))), (3, .d (.bool true)), (4, .own 0 _), (5, .d (.int _ _))] ⟨rfl, rfl, rfl, rfl, trivial⟩ ?_
        refine Runs.rseq ?_
        refine RO.opv (v' := .d (.bool true)) (opv_move rfl) rfl ?_
        refine RO.opv (v' := .d (.bool true)) (opv_assign rfl) rfl ?_
        refine RO.nil ?_
        refine Runs.ret ?_
        refine thenQ_ret ?_
        refine blockQ_ret ?_
        refine thenQ_ret ?_
        refine thenQ_ret ?_
        refine blockQ_ret ?_
        refine thenQ_ret ?_
        refine EndQ.tmp (.inr rfl) rfl rfl 0 (by exact Nat.le_refl _) (by exact Nat.zero_le _) trivial ⟨?_, rfl⟩
        first
          | rfl
          | (refine bool_eq ?_; rw [sortR_again]; exact (sames_iff _ _).2 rfl)
      · try simp only [Z.a, Z.b, Z.c, Z.d, Z.e, Z.f, Z.g, Z.h, Z.i, Z.j, Z.k, Z.l, Z.m] at h3
        refine RO.opgv (v' := .d (.list (encs _))) rfl (opv_move rfl) rfl ?_
        refine RO.opgv (v' := .d (.int _ _)) rfl (opv_move (v := .d (.int .i64 ((k : Nat) : Int))) (by refine int_eq ?_; omega)) rfl ?_
        refine RO.opgv (v' := .d (.ptr _)) rfl (opv_index_terms rfl rfl (by omega)) rfl ?_
        refine RO.opgv (v' := .d (enc _)) rfl (opv_load_pterm rfl) rfl ?_
        refine RO.opgv (v' := .d (.int _ _)) rfl (opv_callF (check_fn l[k] 16 (by have := bulks_mem (List.getElem_mem (l := l) (n := k) (by omega)); omega)) rfl rfl rfl trivial) rfl ?_
        refine RO.opgv (v' := .d (.bool _)) rfl (opv_bin rfl rfl rfl) rfl ?_
        refine RO.opc (opv_pick rfl rfl) (fun h4 => ?_) (fun h4 => ?_)
        · try simp only [Z.a, Z.b, Z.c, Z.d, Z.e, Z.f, Z.g, Z.h, Z.i, Z.j, Z.k, Z.l, Z.m] at h4
          skip
          refine RO.nil ?_
          refine Runs.condT rfl ?_
          refine Runs.has [(0, .d (.list (encs _))), (3, .d (.bool true)), (4, .own 0 _), (5, .d (.int _ _))] ⟨rfl, rfl, rfl, rfl, trivial⟩ ?_
          refine Runs.rseq ?_
          refine RO.opv (v' := .d (.bool true)) (opv_move rfl) rfl ?_
          refine RO.opv (v' := .d (.bool true)) (opv_assign rfl) rfl ?_
          refine RO.nil ?_
          refine Runs.ret ?_
          refine thenQ_ret ?_
          refine blockQ_ret ?_
          refine thenQ_ret ?_
          refine thenQ_ret ?_
          refine blockQ_ret ?_
          refine thenQ_ret ?_
          refine EndQ.tmp (.inr rfl) rfl rfl 0 (by exact Nat.le_refl _) (by exact Nat.zero_le _) trivial ⟨?_, rfl⟩
          first
            | rfl
            | (refine bool_eq ?_; rw [sortR_again]; exact (sames_iff _ _).2 rfl)
        · try simp only [Z.a, Z.b, Z.c, Z.d, Z.e, Z.f, Z.g, Z.h, Z.i, Z.j, Z.k, Z.l, Z.m] at h4
          have hc0 : l[k].check 16 = 0 := by omega
          refine RO.nil ?_
          refine Runs.condF rfl ?_
          refine Runs.skip ?_
          refine thenQ_normal ?_
          refine Runs.has [(0, .d (.list (encs _))), (3, .d (.bool true)), (4, .own 0 _), (5, .d (.int _ _))] ⟨rfl, rfl, rfl, rfl, trivial⟩ ?_
          refine Runs.region ?_
          refine RO.opv (v' := .own 0 _) (opv_move rfl) rfl ?_
          refine RO.opv (v' := .d (.list (encs _))) (opv_move rfl) rfl ?_
          refine RO.opv (v' := .d (.int _ _)) (opv_move (v := .d (.int .i64 ((k : Nat) : Int))) (by refine int_eq ?_; omega)) rfl ?_
          refine RO.opv (v' := .d (.ptr _)) (opv_index_terms rfl rfl (by omega)) rfl ?_
          refine RO.opv (v' := .d (enc _)) (opv_load_pterm rfl) rfl ?_
          refine RO.opv (v' := .d (.list (encs _))) (opv_bs_term1 rfl ) rfl ?_
          refine RO.opn (v' := .own 0 _) (O' := [_]) (opv_append_terms rfl rfl rfl (by simp; omega)) rfl rfl ?_
          refine RO.opv (v' := .own 0 _) (opv_assign rfl) rfl ?_
          refine RO.nil ?_
          refine blockQ_normal ?_
          refine thenQ_normal ?_
          refine Runs.has [(0, .d (.list (encs _))), (3, .d (.bool true)), (4, .own 0 _), (5, .d (.int _ _))] ⟨rfl, rfl, rfl, rfl, trivial⟩ ?_
          refine Runs.region ?_
          refine RO.opv (v' := .d (.int _ _)) (opv_move rfl) rfl ?_
          refine RO.opv (v' := .d (.int _ _)) (opv_bin rfl rfl rfl) rfl ?_
          refine RO.opv (v' := .d (.int _ _)) (opv_assign rfl) rfl ?_
          refine RO.nil ?_
          refine thenQ_normal ?_
          refine ⟨(k, y.2 + 1), 1, (by rw [hK]; exact Nat.le_of_ble_eq_true rfl), ⟨rfl, rfl, trivial⟩, ⟨?_, ?_, trivial⟩, ?_, ?_, ?_⟩
          · rfl
          · refine int_eq ?_; rw [wrap64 (by omega) (by omega)]; show _ = ((k : Nat) : Int) - 1; omega
          · rw [drop_cons (List.getElem?_eq_getElem hkl), List.reverse_cons, hk]; rfl
          · refine ⟨by show k + (y.2 + 1) = _; omega, fun x hx => ?_⟩
            replace hx : x ∈ l.drop k := hx
            rw [drop_cons (List.getElem?_eq_getElem hkl)] at hx
            rcases List.mem_cons.1 hx with rfl | hx
            · exact hc0
            · exact y3 x (by rw [hk]; exact hx)
          · show k < y.1; omega
    · try simp only [Z.a, Z.b, Z.c, Z.d, Z.e, Z.f, Z.g, Z.h, Z.i, Z.j, Z.k, Z.l, Z.m] at h2
      have hy0 : y.1 = 0 := by omega
      have hdl : l.drop y.1 = l := by rw [hy0]; rfl
      have hbb : ∀ x ∈ (l.drop y.1).reverse, x.bulk ≤ 2 ^ 30 := fun x hx => hbk x (by rw [hdl] at hx; exact List.mem_reverse.1 hx)
      obtain ⟨hlen, hal⟩ := sortR_turn (l := l) (m := (l.drop y.1).reverse) (fun z => by rw [hdl, List.mem_reverse])
      have hck : ∀ x ∈ l, x.check 16 = 0 := fun x hx => y3 x (by rw [hdl]; exact hx)
      have hsbb := sortR_le (l.drop y.1).reverse
      refine RO.nil ?_
      refine Runs.condF rfl ?_
      refine Runs.exit ?_
      refine thenQ_exit ?_
      refine thenQ_exit ?_
      refine blockQ_here ?_
      refine thenQ_normal ?_
      refine Runs.has [(0, .d (.list (encs _))), (3, .d (.bool true)), (4, .own 0 _)] ⟨rfl, rfl, rfl, trivial⟩ ?_
      refine Runs.shut 4 rfl rfl ?_
      refine Runs.rseq ?_
      refine RO.opv (v' := .d (.list (encs _))) (opv_move rfl) rfl ?_
      refine RO.opv (v' := .d (.list (encs _))) (opv_callF (sort_fn l hn hbk) rfl rfl rfl trivial) rfl ?_
      refine RO.opv (v' := .d (.list (encs _))) (opv_assign rfl) rfl ?_
      refine RO.nil ?_
      refine Runs.has [(0, .d (.list (encs _))), (3, .d (.bool true)), (4, .d (.list (encs _))), (6, .d (.list (encs _)))] ⟨rfl, rfl, rfl, rfl, trivial⟩ ?_
      refine Runs.rseq ?_
      refine RO.opv (v' := .d (.list (encs _))) (opv_move rfl) rfl ?_
      refine RO.opv (v' := .d (.list (encs _))) (opv_callF (sort_fn (l.drop y.1).reverse (by simp; omega) hbb) rfl rfl rfl trivial) rfl ?_
      refine RO.opv (v' := .d (.list (encs _))) (opv_assign rfl) rfl ?_
      refine RO.nil ?_
      refine Runs.has [(0, .d (.list (encs _))), (3, .d (.bool true)), (6, .d (.list (encs _))), (7, .d (.list (encs _)))] ⟨rfl, rfl, rfl, rfl, trivial⟩ ?_
      refine Runs.seq ?_
      refine Runs.rseq ?_
      refine RO.opv (v' := .d (.list (encs _))) (opv_move rfl) rfl ?_
      refine RO.opv (v' := .d (.int _ _)) (opv_len_terms rfl) rfl ?_
      refine RO.opv (v' := .d (.list (encs _))) (opv_move rfl) rfl ?_
      refine RO.opv (v' := .d (.int _ _)) (opv_len_terms rfl) rfl ?_
      refine RO.opv (v' := .d (.bool _)) (opv_bin rfl rfl rfl) rfl ?_
      refine RO.opc (opv_move rfl) (fun h5 => ?_) (fun h5 => ?_)
      · try simp only [Z.a, Z.b, Z.c, Z.d, Z.e, Z.f, Z.g, Z.h, Z.i, Z.j, Z.k, Z.l, Z.m] at h5
        exact absurd (by rw [hlen]) h5
      · try simp only [Z.a, Z.b, Z.c, Z.d, Z.e, Z.f, Z.g, Z.h, Z.i, Z.j, Z.k, Z.l, Z.m] at h5
        refine RO.opgv (v' := .d (.list (encs _))) rfl (opv_move rfl) rfl ?_
        refine RO.opgv (v' := .d (.int _ _)) rfl (opv_len_terms rfl) rfl ?_
        refine RO.opgv (v' := .d (.list (encs _))) rfl (opv_move rfl) rfl ?_
        refine RO.opgv (v' := .d (.int _ _)) rfl (opv_len_terms rfl) rfl ?_
        refine RO.opgv (v' := .d (.bool _)) rfl (opv_bin rfl rfl rfl) rfl ?_
        refine RO.opc (opv_pick rfl rfl) (fun h6 => ?_) (fun h6 => ?_)
        · try simp only [Z.a, Z.b, Z.c, Z.d, Z.e, Z.f, Z.g, Z.h, Z.i, Z.j, Z.k, Z.l, Z.m] at h6
          omega
        · try simp only [Z.a, Z.b, Z.c, Z.d, Z.e, Z.f, Z.g, Z.h, Z.i, Z.j, Z.k, Z.l, Z.m] at h6
          refine RO.nil ?_
          refine Runs.condF rfl ?_
          refine Runs.skip ?_
          refine thenQ_normal ?_
          refine Runs.has [(3, .d (.bool true)), (6, .d (.list (encs _))), (7, .d (.list (encs _)))] ⟨rfl, rfl, rfl, trivial⟩ ?_
          refine Runs.seq ?_
          refine Runs.rseq ?_
          refine RO.opv (v' := .d (.int _ _)) (opv_assign rfl) rfl ?_
          refine RO.nil ?_
          refine Runs.block ?_
          refine Runs.loopC (X := Nat) (fun i => i ≤ (sortR l).length) (fun i => (sortR l).length - i) [(3, .d (.bool true)), (6, .d (.list (encs _))), (7, .d (.list (encs _)))] (fun i => [(8, .d (.int .i64 ((i : Nat) : Int)))]) [_] (fun i => []) (0) ⟨rfl, rfl, rfl, trivial⟩ ⟨rfl, trivial⟩ rfl (by omega) fun i hi => ?_
          refine Runs.seq ?_
          refine Runs.rseq ?_
          refine RO.opv (v' := .d (.int _ _)) (opv_move rfl) rfl ?_
          refine RO.opv (v' := .d (.list (encs _))) (opv_move rfl) rfl ?_
          refine RO.opv (v' := .d (.int _ _)) (opv_len_terms rfl) rfl ?_
          refine RO.opc (opv_bin rfl rfl rfl) (fun h7 => ?_) (fun h7 => ?_)
          · try simp only [Z.a, Z.b, Z.c, Z.d, Z.e, Z.f, Z.g, Z.h, Z.i, Z.j, Z.k, Z.l, Z.m] at h7
            have hk : i < (sortR l).length := by omega
            have hkb : i < (sortR (l.drop y.1).reverse).length := by omega
            have hma := hbk _ (sortR_sub (List.getElem_mem hk))
            have hmb := hbb _ (sortR_sub (List.getElem_mem hkb))
            refine RO.nil ?_
            refine Runs.condT rfl ?_
            refine Runs.skip ?_
            refine thenQ_normal ?_
            refine Runs.has [(3, .d (.bool true)), (6, .d (.list (encs _))), (7, .d (.list (encs _))), (8, .d (.int _ _))] ⟨rfl, rfl, rfl, rfl, trivial⟩ ?_
            refine Runs.seq ?_
            refine Runs.block ?_
            refine Runs.seq ?_
            refine Runs.drawn (by kernel_rfl) [] [false, false, false, false, false, false, false, false, false, false, false, false, false, false, false, false, false, false, false, false, false, false, false, false, false, false, false, false, false] [false, false, false, false, false, false, false, false, false, false, false, false, false, false, false, false, false, false, false, false, false, false, false, false, false, false, false, false, false] (by decide +kernel) ?_
            refine RD.opv (v' := .d (.int _ _)) (opv_move rfl) rfl ?_
            refine RD.opv (v' := .d (.bool _)) (opv_bin rfl rfl rfl) rfl ?_
            refine RD.opc (opv_move rfl) (fun h8 => ?_) (fun h8 => ?_)
            · try simp only [Z.a, Z.b, Z.c, Z.d, Z.e, Z.f, Z.g, Z.h, Z.i, Z.j, Z.k, Z.l, Z.m] at h8
              obtain ⟨i', hi'⟩ : ∃ i', i = i' + 1 := ⟨i - 1, by omega⟩
              refine RD.opgv (v' := .d (.list (encs _))) rfl (opv_move rfl) rfl ?_
              refine RD.opgv (v' := .d (.int _ _)) rfl (opv_move rfl) rfl ?_
              refine RD.opgv (v' := .d (.int _ _)) rfl (opv_arith (r := ((i' : Nat) : Int)) rfl rfl (by simp only [binD, if_true]; rw [wrap64 (by omega) (by omega)]; congr 2; omega)) rfl ?_
              refine RD.opgv (v' := .d (.ptr _)) rfl (opv_index_terms rfl rfl (by omega)) rfl ?_
              refine RD.opgv (v' := .d (enc _)) rfl (opv_load_pterm rfl) rfl ?_
              refine RD.opgv (v' := .d (.list (encs _))) rfl (opv_move rfl) rfl ?_
              refine RD.opgv (v' := .d (.int _ _)) rfl (opv_move rfl) rfl ?_
              refine RD.opgv (v' := .d (.ptr _)) rfl (opv_index_terms rfl rfl (by omega)) rfl ?_
              refine RD.opgv (v' := .d (enc _)) rfl (opv_load_pterm rfl) rfl ?_
              refine RD.opgv (v' := .d (.int _ _)) rfl (opv_callF (compare_fn (sortR l)[i'] (sortR l)[i] (hbk _ (sortR_sub (List.getElem_mem (by omega)))) hma) rfl rfl rfl trivial) rfl ?_
              refine RD.opgv (v' := .d (.bool _)) rfl (opv_bin rfl rfl rfl) rfl ?_
              refine RD.opv (v' := .d (.bool _)) (opv_pick rfl rfl) rfl ?_
              refine RD.opc (opv_move rfl) (fun h9 => ?_) (fun h9 => ?_)
              · try simp only [Z.a, Z.b, Z.c, Z.d, Z.e, Z.f, Z.g, Z.h, Z.i, Z.j, Z.k, Z.l, Z.m] at h9
                exact absurd (sortR_step (l := l) (i := i') (List.getElem?_eq_getElem (by omega)) (by rw [← hi']; exact List.getElem?_eq_getElem hk)) h9
              · try simp only [Z.a, Z.b, Z.c, Z.d, Z.e, Z.f, Z.g, Z.h, Z.i, Z.j, Z.k, Z.l, Z.m] at h9
                refine RD.opgv (v' := .d (.list (encs _))) rfl (opv_move rfl) rfl ?_
                refine RD.opgv (v' := .d (.int _ _)) rfl (opv_move rfl) rfl ?_
                refine RD.opgv (v' := .d (.ptr _)) rfl (opv_index_terms rfl rfl (by omega)) rfl ?_
                refine RD.opgv (v' := .d (enc _)) rfl (opv_load_pterm rfl) rfl ?_
                refine RD.opgv (v' := .d (enc _)) rfl (opv_callF (erase_fn (sortR l)[i] hma) rfl rfl rfl trivial) rfl ?_
                refine RD.opgv (v' := .d (.list (encs _))) rfl (opv_move rfl) rfl ?_
                refine RD.opgv (v' := .d (.int _ _)) rfl (opv_move rfl) rfl ?_
                refine RD.opgv (v' := .d (.ptr _)) rfl (opv_index_terms rfl rfl (by omega)) rfl ?_
                refine RD.opgv (v' := .d (enc _)) rfl (opv_load_pterm rfl) rfl ?_
                refine RD.opgv (v' := .d (enc _)) rfl (opv_callF (erase_fn (sortR (l.drop y.1).reverse)[i] hmb) rfl rfl rfl trivial) rfl ?_
                refine RD.opgv (v' := .d (.bool _)) rfl (opv_callF (same_fn (sortR l)[i].erase (sortR (l.drop y.1).reverse)[i].erase (Nat.le_trans (erase_bulk _) hma) (Nat.le_trans (erase_bulk _) hmb)) rfl rfl rfl trivial) rfl ?_
                refine RD.opgv (v' := .d (.bool _)) rfl (opv_not rfl rfl) rfl ?_
                refine RD.opc (opv_pick rfl rfl) (fun h10 => ?_) (fun h10 => ?_)
                · try simp only [Z.a, Z.b, Z.c, Z.d, Z.e, Z.f, Z.g, Z.h, Z.i, Z.j, Z.k, Z.l, Z.m] at h10
                  have hz := (compare_zero (hck _ (sortR_sub (List.getElem_mem hk))) (y3 _ (List.mem_reverse.1 (sortR_sub (List.getElem_mem hkb))))).1 (hal i _ _ (List.getElem?_eq_getElem hk) (List.getElem?_eq_getElem hkb))
                  rw [(same_iff _ _).2 hz] at h10
                  exact absurd h10 (by decide)
                · try simp only [Z.a, Z.b, Z.c, Z.d, Z.e, Z.f, Z.g, Z.h, Z.i, Z.j, Z.k, Z.l, Z.m] at h10
                  refine RD.nil ?_
                  refine thenQ_normal ?_
                  refine Runs.condF rfl ?_
                  refine Runs.skip ?_
                  refine blockQ_normal ?_
                  refine thenQ_normal ?_
                  refine Runs.has [(3, .d (.bool true)), (6, .d (.list (encs _))), (7, .d (.list (encs _))), (8, .d (.int _ _))] ⟨rfl, rfl, rfl, rfl, trivial⟩ ?_
                  refine Runs.region ?_
                  refine RO.opv (v' := .d (.int _ _)) (opv_move rfl) rfl ?_
                  refine RO.opv (v' := .d (.int _ _)) (opv_bin rfl rfl rfl) rfl ?_
                  refine RO.opv (v' := .d (.int _ _)) (opv_assign rfl) rfl ?_
                  refine RO.nil ?_
                  refine thenQ_normal ?_
                  refine ⟨i+1, 1, (by rw [hK]; exact Nat.le_of_ble_eq_true rfl), ⟨rfl, rfl, rfl, trivial⟩, ⟨?_, trivial⟩, rfl, ?_, ?_⟩
                  · refine int_eq ?_; rw [wrap64 (by omega) (by omega)]; omega
                  · omega
                  · omega
            · try simp only [Z.a, Z.b, Z.c, Z.d, Z.e, Z.f, Z.g, Z.h, Z.i, Z.j, Z.k, Z.l, Z.m] at h8
              skip
              refine RD.off rfl ?_
              refine RD.off rfl ?_
              refine RD.off rfl ?_
              refine RD.off rfl ?_
              refine RD.off rfl ?_
              refine RD.off rfl ?_
              refine RD.off rfl ?_
              refine RD.off rfl ?_
              refine RD.off rfl ?_
              refine RD.off rfl ?_
              refine RD.off rfl ?_
              refine RD.opv (v' := .d (.bool false)) (opv_pick rfl rfl) rfl ?_
              refine RD.opv (v' := .d (.bool false)) (opv_move rfl) rfl ?_
              refine RD.opgv (v' := .d (.list (encs _))) rfl (opv_move rfl) rfl ?_
              refine RD.opgv (v' := .d (.int _ _)) rfl (opv_move rfl) rfl ?_
              refine RD.opgv (v' := .d (.ptr _)) rfl (opv_index_terms rfl rfl (by omega)) rfl ?_
              refine RD.opgv (v' := .d (enc _)) rfl (opv_load_pterm rfl) rfl ?_
              refine RD.opgv (v' := .d (enc _)) rfl (opv_callF (erase_fn (sortR l)[i] hma) rfl rfl rfl trivial) rfl ?_
              refine RD.opgv (v' := .d (.list (encs _))) rfl (opv_move rfl) rfl ?_
              refine RD.opgv (v' := .d (.int _ _)) rfl (opv_move rfl) rfl ?_
              refine RD.opgv (v' := .d (.ptr _)) rfl (opv_index_terms rfl rfl (by omega)) rfl ?_
              refine RD.opgv (v' := .d (enc _)) rfl (opv_load_pterm rfl) rfl ?_
              refine RD.opgv (v' := .d (enc _)) rfl (opv_callF (erase_fn (sortR (l.drop y.1).reverse)[i] hmb) rfl rfl rfl trivial) rfl ?_
              refine RD.opgv (v' := .d (.bool _)) rfl (opv_callF (same_fn (sortR l)[i].erase (sortR (l.drop y.1).reverse)[i].erase (Nat.le_trans (erase_bulk _) hma) (Nat.le_trans (erase_bulk _) hmb)) rfl rfl rfl trivial) rfl ?_
              refine RD.opgv (v' := .d (.bool _)) rfl (opv_not rfl rfl) rfl ?_
              refine RD.opc (opv_pick rfl rfl) (fun h11 => ?_) (fun h11 => ?_)
              · try simp only [Z.a, Z.b, Z.c, Z.d, Z.e, Z.f, Z.g, Z.h, Z.i, Z.j, Z.k, Z.l, Z.m] at h11
                have hz := (compare_zero (hck _ (sortR_sub (List.getElem_mem hk))) (y3 _ (List.mem_reverse.1 (sortR_sub (List.getElem_mem hkb))))).1 (hal i _ _ (List.getElem?_eq_getElem hk) (List.getElem?_eq_getElem hkb))
                rw [(same_iff _ _).2 hz] at h11
                exact absurd h11 (by decide)
              · try simp only [Z.a, Z.b, Z.c, Z.d, Z.e, Z.f, Z.g, Z.h, Z.i, Z.j, Z.k, Z.l, Z.m] at h11
                refine RD.nil ?_
                refine thenQ_normal ?_
                refine Runs.condF rfl ?_
                refine Runs.skip ?_
                refine blockQ_normal ?_
                refine thenQ_normal ?_
                refine Runs.has [(3, .d (.bool true)), (6, .d (.list (encs _))), (7, .d (.list (encs _))), (8, .d (.int _ _))] ⟨rfl, rfl, rfl, rfl, trivial⟩ ?_
                refine Runs.region ?_
                refine RO.opv (v' := .d (.int _ _)) (opv_move rfl) rfl ?_
                refine RO.opv (v' := .d (.int _ _)) (opv_bin rfl rfl rfl) rfl ?_
                refine RO.opv (v' := .d (.int _ _)) (opv_assign rfl) rfl ?_
                refine RO.nil ?_
                refine thenQ_normal ?_
                refine ⟨i+1, 1, (by rw [hK]; exact Nat.le_of_ble_eq_true rfl), ⟨rfl, rfl, rfl, trivial⟩, ⟨?_, trivial⟩, rfl, ?_, ?_⟩
                · refine int_eq ?_; rw [wrap64 (by omega) (by omega)]; omega
                · omega
                · omega
          · try simp only [Z.a, Z.b, Z.c, Z.d, Z.e, Z.f, Z.g, Z.h, Z.i, Z.j, Z.k, Z.l, Z.m] at h7
            skip
            refine RO.nil ?_
            refine Runs.condF rfl ?_
            refine Runs.exit ?_
            refine thenQ_exit ?_
            refine thenQ_exit ?_
            refine blockQ_here ?_
            refine thenQ_normal ?_
            refine Runs.has [(3, .d (.bool true)), (6, .d (.list (encs _)))] ⟨rfl, rfl, trivial⟩ ?_
            refine Runs.rseq ?_
            refine RO.opv (v' := .d (.bool true)) (opv_move rfl) rfl ?_
            refine RO.opv (v' := .d (.bool true)) (opv_move rfl) rfl ?_
            refine RO.opgv (v' := .d (.list (encs _))) rfl (opv_move rfl) rfl ?_
            refine RO.opgv (v' := .d (.list (encs _))) rfl (opv_callF (sort_fn (sortR l) (by omega) (fun x hx => hbk x (sortR_sub hx))) rfl rfl rfl trivial) rfl ?_
            refine RO.opgv (v' := .d (.list (encs _))) rfl (opv_move rfl) rfl ?_
            refine RO.opgv (v' := .d (.bool _)) rfl (opv_callF (lists_fn (sortR (sortR l)) (sortR l) (by rw [sortR_again]; omega) (by omega)) rfl rfl rfl trivial) rfl ?_
            refine RO.opv (v' := .d (.bool _)) (opv_pick rfl rfl) rfl ?_
            refine RO.opv (v' := .d (.bool _)) (opv_assign rfl) rfl ?_
            refine RO.nil ?_
            refine Runs.ret ?_
            refine EndQ.tmp (.inr rfl) rfl rfl 0 (by exact Nat.le_refl _) (by exact Nat.zero_le _) trivial ⟨?_, rfl⟩
            first
              | rfl
              | (refine bool_eq ?_; rw [sortR_again]; exact (sames_iff _ _).2 rfl)
end Go.Proofs.Ythpiggjclhnkcaa.AM
