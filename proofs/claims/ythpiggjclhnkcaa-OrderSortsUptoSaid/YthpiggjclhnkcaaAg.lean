import Derived.Test.YthpiggjclhnkcaaPg
import Derived.Test.YthpiggjclhnkcaaWS
namespace Go.Proofs.Ythpiggjclhnkcaa.AM
open Go
set_option linter.unusedVariables false
set_option linter.unusedSimpArgs false
theorem compact_fn (l : List Term) (v : Nat) (hl : l.length ≤ 2 ^ 20) (hbk : ∀ x ∈ l, x.bulk ≤ 2 ^ 30) : Fn Try.prog 48 [.own 0 v, .fn 49 []] [.buf 24 4 (encs l) v] (.own 0 (cver l v)) [.buf 24 4 (encs (cmpct l)) (cver l v)] := by
  refine Does.run Try.func48 rfl Try.ntmps48 rfl fun K hK => ?_
  refine Runs.rseq ?_
  refine RO.opv (v' := .nil0) (opv_assign rfl) rfl ?_
  refine RO.nil ?_
  refine Runs.seq ?_
  refine Runs.rseq ?_
  refine RO.opv (v' := .own 0 _) (opv_move rfl) rfl ?_
  refine RO.opv (v' := .d (.int _ _)) (opv_len_oterms rfl rfl) rfl ?_
  refine RO.opc (opv_bin rfl rfl rfl) (fun h1 => ?_) (fun h1 => ?_)
  · try simp only [Z.a, Z.b, Z.c, Z.d, Z.e, Z.f, Z.g, Z.h, Z.i, Z.j, Z.k, Z.l, Z.m] at h1
    have hk : l.length < 2 := by omega
    refine RO.nil ?_
    refine Runs.condT rfl ?_
    refine Runs.has [(0, .own 0 _), (1, .fn 49 _), (4, .nil0)] ⟨rfl, rfl, rfl, trivial⟩ ?_
    refine Runs.rseq ?_
    refine RO.opv (v' := .own 0 _) (opv_move rfl) rfl ?_
    refine RO.opv (v' := .own 0 _) (opv_assign rfl) rfl ?_
    refine RO.nil ?_
    refine Runs.ret ?_
    refine thenQ_ret ?_
    refine EndQ.tmp (.inr rfl) rfl rfl 1 (by exact Nat.le_refl _) (by simp) (Nat.zero_lt_one) ⟨?_, ?_⟩
    · rw [cver_same (cmpct_few hk)]; rfl
    · rw [cver_same (cmpct_few hk), cmpct_few hk]; rfl
  · try simp only [Z.a, Z.b, Z.c, Z.d, Z.e, Z.f, Z.g, Z.h, Z.i, Z.j, Z.k, Z.l, Z.m] at h1
    have hk : 2 ≤ l.length := by omega
    refine RO.nil ?_
    refine Runs.condF rfl ?_
    refine Runs.skip ?_
    refine thenQ_normal ?_
    refine Runs.has [(0, .own 0 _), (1, .fn 49 _), (4, .nil0)] ⟨rfl, rfl, rfl, trivial⟩ ?_
    refine Runs.seq ?_
    refine Runs.rseq ?_
    refine RO.opv (v' := .d (.int _ _)) (opv_assign rfl) rfl ?_
    refine RO.nil ?_
    refine Runs.block ?_
    refine Runs.loopC (X := Nat) (fun i => i + 1 ≤ l.length ∧ cmpct (l.take (i + 1)) = l.take (i + 1)) (fun i => l.length - i) [(0, .own 0 _), (1, .fn 49 _)] (fun i => [(5, .d (.int .i64 ((i + 1 : Nat) : Int)))]) [] (fun i => [.buf 24 4 (encs l) v]) (0) ⟨rfl, rfl, trivial⟩ ⟨rfl, trivial⟩ rfl ⟨by omega, cmpct_one (by omega)⟩ fun i hi => ?_
    obtain ⟨hi1, hi2⟩ := hi
    refine Runs.seq ?_
    refine Runs.rseq ?_
    refine RO.opv (v' := .d (.int _ _)) (opv_move rfl) rfl ?_
    refine RO.opv (v' := .own 0 _) (opv_move rfl) rfl ?_
    refine RO.opv (v' := .d (.int _ _)) (opv_len_oterms rfl rfl) rfl ?_
    refine RO.opc (opv_bin rfl rfl rfl) (fun h2 => ?_) (fun h2 => ?_)
    · try simp only [Z.a, Z.b, Z.c, Z.d, Z.e, Z.f, Z.g, Z.h, Z.i, Z.j, Z.k, Z.l, Z.m] at h2
      have hk1 : i + 1 < l.length := by omega
      obtain ⟨X, hgx⟩ : ∃ X, l[i + 1]? = some X := ⟨_, List.getElem?_eq_getElem (by omega)⟩
      obtain ⟨Y, hgy⟩ : ∃ Y, l[i]? = some Y := ⟨_, List.getElem?_eq_getElem (by omega)⟩
      have hmX := List.mem_of_getElem? hgx
      have hmY := List.mem_of_getElem? hgy
      refine RO.nil ?_
      refine Runs.condT rfl ?_
      refine Runs.skip ?_
      refine thenQ_normal ?_
      refine Runs.has [(0, .own 0 _), (1, .fn 49 _), (5, .d (.int _ _))] ⟨rfl, rfl, rfl, trivial⟩ ?_
      refine Runs.seq ?_
      refine Runs.block ?_
      refine Runs.seq ?_
      refine Runs.drawn (by kernel_rfl) [] [false, false, false, false, false, false, false, false, false, false, false] [false, false, false, false, false, false, false, false, false, false, false] (by decide +kernel) ?_
      refine RD.opv (v' := .fn 49 _) (opv_move rfl) rfl ?_
      refine RD.opv (v' := .own 0 _) (opv_move rfl) rfl ?_
      refine RD.opv (v' := .d (.int _ _)) (opv_move rfl) rfl ?_
      refine RD.opv (v' := .oel 0 _ _ 0) (opv_index_oterm rfl rfl rfl (by omega)) rfl ?_
      refine RD.opv (v' := .d (enc _)) (opv_load_oterm rfl rfl hgx) rfl ?_
      refine RD.opv (v' := .own 0 _) (opv_move rfl) rfl ?_
      refine RD.opv (v' := .d (.int _ _)) (opv_move rfl) rfl ?_
      refine RD.opv (v' := .d (.int _ _)) (opv_arith (r := ((i : Nat) : Int)) rfl rfl (by simp only [binD, if_true]; rw [wrap64 (by omega) (by omega)]; congr 2; omega)) rfl ?_
      refine RD.opv (v' := .oel 0 _ _ 0) (opv_index_oterm rfl rfl rfl (by omega)) rfl ?_
      refine RD.opv (v' := .d (enc _)) (opv_load_oterm rfl rfl hgy) rfl ?_
      refine RD.opc (opv_callF (sort1_fn X Y (hbk X hmX) (hbk Y hmY)) rfl rfl rfl trivial) (fun h3 => ?_) (fun h3 => ?_)
      · try simp only [Z.a, Z.b, Z.c, Z.d, Z.e, Z.f, Z.g, Z.h, Z.i, Z.j, Z.k, Z.l, Z.m] at h3
        have hal : compareT X Y = 0 := by simpa using h3
        refine RD.nil ?_
        refine thenQ_normal ?_
        refine Runs.condT rfl ?_
        refine Runs.has [(0, .own 0 _), (1, .fn 49 _), (5, .d (.int _ _))] ⟨rfl, rfl, rfl, trivial⟩ ?_
        refine Runs.rseq ?_
        refine RO.opv (v' := .own 0 _) (opv_move rfl) rfl ?_
        refine RO.opv (v' := .d (.int _ _)) (opv_move rfl) rfl ?_
        refine RO.opv (v' := .osl 0 _ _ _) (opv_slice_oslt rfl rfl rfl (by omega)) rfl ?_
        refine RO.opv (v' := .osl 0 _ _ _) (opv_assign rfl) rfl ?_
        refine RO.nil ?_
        refine Runs.has [(0, .own 0 _), (1, .fn 49 _), (5, .d (.int _ _)), (6, .osl 0 _ _ _)] ⟨rfl, rfl, rfl, rfl, trivial⟩ ?_
        refine Runs.seq ?_
        refine Runs.rseq ?_
        refine RO.opv (v' := .d (.int _ _)) (opv_assign rfl) rfl ?_
        refine RO.nil ?_
        refine Runs.block ?_
        refine Runs.loopC (X := (Nat × Nat × List Term)) (fun y => Cmp l y.1 (i + 1 + y.2.1) y.2.2 ∧ 1 ≤ y.2.1) (fun y => l.length - y.2.1) [(0, .own 0 _), (1, .fn 49 _), (6, .osl 0 _ _ _)] (fun y => [(5, .d (.int .i64 ((y.1 : Nat) : Int))), (7, .d (.int .i64 ((y.2.1 : Nat) : Int)))]) [] (fun y => [.buf 24 4 (encs y.2.2) v]) ((i + 1, 1, l)) ⟨rfl, rfl, rfl, trivial⟩ ⟨rfl, rfl, trivial⟩ rfl ⟨Cmp.start hgx hgy hal hi2, Nat.le_refl _⟩ fun y hy => ?_
        obtain ⟨hy, hy1⟩ := hy
        have hylen := hy.len
        have hylt := hy.lt
        have hyle := hy.le
        refine Runs.seq ?_
        refine Runs.rseq ?_
        refine RO.opv (v' := .d (.int _ _)) (opv_move rfl) rfl ?_
        refine RO.opv (v' := .osl 0 _ _ _) (opv_move rfl) rfl ?_
        refine RO.opv (v' := .d (.int _ _)) (opv_len_oslt rfl rfl) rfl ?_
        refine RO.opc (opv_bin rfl rfl rfl) (fun h4 => ?_) (fun h4 => ?_)
        · try simp only [Z.a, Z.b, Z.c, Z.d, Z.e, Z.f, Z.g, Z.h, Z.i, Z.j, Z.k, Z.l, Z.m] at h4
          have hk2 : y.2.1 + (i + 1) < l.length := by omega
          obtain ⟨k2, hk2e⟩ : ∃ k2, y.2.1 = k2 + 1 := ⟨y.2.1 - 1, by omega⟩
          obtain ⟨U, hgU⟩ : ∃ U, y.2.2[i + 1 + y.2.1]? = some U := ⟨_, List.getElem?_eq_getElem (by omega)⟩
          obtain ⟨W, hgW⟩ : ∃ W, y.2.2[i + 1 + k2]? = some W := ⟨_, List.getElem?_eq_getElem (by omega)⟩
          have hmU := hy.mem U (List.mem_of_getElem? hgU)
          have hmW := hy.mem W (List.mem_of_getElem? hgW)
          refine RO.nil ?_
          refine Runs.condT rfl ?_
          refine Runs.skip ?_
          refine thenQ_normal ?_
          refine Runs.has [(0, .own 0 _), (1, .fn 49 _), (5, .d (.int _ _)), (6, .osl 0 _ _ _), (7, .d (.int _ _))] ⟨rfl, rfl, rfl, rfl, rfl, trivial⟩ ?_
          refine Runs.seq ?_
          refine Runs.block ?_
          refine Runs.seq ?_
          refine Runs.drawn (by kernel_rfl) [] [false, false, false, false, false, false, false, false, false, false, false, false] [false, false, false, false, false, false, false, false, false, false, false, false] (by decide +kernel) ?_
          refine RD.opv (v' := .fn 49 _) (opv_move rfl) rfl ?_
          refine RD.opv (v' := .osl 0 _ _ _) (opv_move rfl) rfl ?_
          refine RD.opv (v' := .d (.int _ _)) (opv_move rfl) rfl ?_
          refine RD.opv (v' := .oel 0 _ _ 0) (opv_index_oslt rfl rfl rfl (by omega)) rfl ?_
          refine RD.opv (v' := .d (enc _)) (opv_load_oterm rfl rfl hgU) rfl ?_
          refine RD.opv (v' := .osl 0 _ _ _) (opv_move rfl) rfl ?_
          refine RD.opv (v' := .d (.int _ _)) (opv_move rfl) rfl ?_
          refine RD.opv (v' := .d (.int _ _)) (opv_arith (r := ((k2 : Nat) : Int)) rfl rfl (by simp only [binD, if_true]; rw [wrap64 (by omega) (by omega)]; congr 2; omega)) rfl ?_
          refine RD.opv (v' := .oel 0 _ _ 0) (opv_index_oslt rfl rfl rfl (by omega)) rfl ?_
          refine RD.opv (v' := .d (enc _)) (opv_load_oterm rfl rfl hgW) rfl ?_
          refine RD.opv (v' := .d (.bool _)) (opv_callF (sort1_fn U W (hbk U hmU) (hbk W hmW)) rfl rfl rfl trivial) rfl ?_
          refine RD.opc (opv_not rfl rfl) (fun h5 => ?_) (fun h5 => ?_)
          · try simp only [Z.a, Z.b, Z.c, Z.d, Z.e, Z.f, Z.g, Z.h, Z.i, Z.j, Z.k, Z.l, Z.m] at h5
            have hal2 : ¬ compareT U W = 0 := by simpa using h5
            refine RD.nil ?_
            refine thenQ_normal ?_
            refine Runs.condT rfl ?_
            refine Runs.has [(0, .own 0 _), (1, .fn 49 _), (5, .d (.int _ _)), (6, .osl 0 _ _ _), (7, .d (.int _ _))] ⟨rfl, rfl, rfl, rfl, rfl, trivial⟩ ?_
            refine Runs.rseq ?_
            refine RO.opv (v' := .own 0 _) (opv_move rfl) rfl ?_
            refine RO.opv (v' := .d (.int _ _)) (opv_move rfl) rfl ?_
            refine RO.opv (v' := .osl 0 _ _ _) (opv_move rfl) rfl ?_
            refine RO.opv (v' := .d (.int _ _)) (opv_move rfl) rfl ?_
            refine RO.opv (v' := .oel 0 _ _ 0) (opv_index_oslt rfl rfl rfl (by omega)) rfl ?_
            refine RO.opv (v' := .d (enc _)) (opv_load_oterm rfl rfl hgU) rfl ?_
            refine RO.opv (v' := .oel 0 _ _ 0) (opv_index_oterm rfl rfl rfl (by omega)) rfl ?_
            refine RO.op0n (O' := [_]) (opv_store_oterm rfl rfl rfl (by omega)) rfl ?_
            refine RO.nil ?_
            refine Runs.has [(0, .own 0 _), (1, .fn 49 _), (5, .d (.int _ _)), (6, .osl 0 _ _ _), (7, .d (.int _ _))] ⟨rfl, rfl, rfl, rfl, rfl, trivial⟩ ?_
            refine Runs.region ?_
            refine RO.opv (v' := .d (.int _ _)) (opv_move rfl) rfl ?_
            refine RO.opv (v' := .d (.int _ _)) (opv_bin rfl rfl rfl) rfl ?_
            refine RO.opv (v' := .d (.int _ _)) (opv_assign rfl) rfl ?_
            refine RO.nil ?_
            refine blockQ_normal ?_
            refine thenQ_normal ?_
            refine Runs.has [(0, .own 0 _), (1, .fn 49 _), (5, .d (.int _ _)), (6, .osl 0 _ _ _), (7, .d (.int _ _))] ⟨rfl, rfl, rfl, rfl, rfl, trivial⟩ ?_
            refine Runs.region ?_
            refine RO.opv (v' := .d (.int _ _)) (opv_move rfl) rfl ?_
            refine RO.opv (v' := .d (.int _ _)) (opv_bin rfl rfl rfl) rfl ?_
            refine RO.opv (v' := .d (.int _ _)) (opv_assign rfl) rfl ?_
            refine RO.nil ?_
            refine thenQ_normal ?_
            refine ⟨(y.1 + 1, y.2.1 + 1, y.2.2.set y.1 U), 1, (by rw [hK]; exact Nat.le_of_ble_eq_true rfl), ⟨rfl, rfl, rfl, trivial⟩, ⟨?_, ?_, trivial⟩, rfl, ?_, ?_⟩
            · refine int_eq ?_; rw [wrap64 (by omega) (by omega)]; show ((y.1 : Nat) : Int) + 1 = ((y.1 + 1 : Nat) : Int); omega
            · refine int_eq ?_; rw [wrap64 (by omega) (by omega)]; show ((y.2.1 : Nat) : Int) + 1 = ((y.2.1 + 1 : Nat) : Int); omega
            · refine ⟨?_, by show 1 ≤ y.2.1 + 1; omega⟩
              have hz := Cmp.not (j := i + 1 + k2) (x := U) (y := W) (by rw [hk2e] at hy; exact hy) (by rw [hk2e] at hgU; exact hgU) hgW hal2
              rw [show i + 1 + k2 + 2 = i + 1 + (y.2.1 + 1) by omega] at hz
              exact hz
            · show l.length - (y.2.1 + 1) < _; omega
          · try simp only [Z.a, Z.b, Z.c, Z.d, Z.e, Z.f, Z.g, Z.h, Z.i, Z.j, Z.k, Z.l, Z.m] at h5
            have hal2 : compareT U W = 0 := by simpa using h5
            refine RD.nil ?_
            refine thenQ_normal ?_
            refine Runs.condF rfl ?_
            refine Runs.skip ?_
            refine blockQ_normal ?_
            refine thenQ_normal ?_
            refine Runs.has [(0, .own 0 _), (1, .fn 49 _), (5, .d (.int _ _)), (6, .osl 0 _ _ _), (7, .d (.int _ _))] ⟨rfl, rfl, rfl, rfl, rfl, trivial⟩ ?_
            refine Runs.region ?_
            refine RO.opv (v' := .d (.int _ _)) (opv_move rfl) rfl ?_
            refine RO.opv (v' := .d (.int _ _)) (opv_bin rfl rfl rfl) rfl ?_
            refine RO.opv (v' := .d (.int _ _)) (opv_assign rfl) rfl ?_
            refine RO.nil ?_
            refine thenQ_normal ?_
            refine ⟨(y.1, y.2.1 + 1, y.2.2), 1, (by rw [hK]; exact Nat.le_of_ble_eq_true rfl), ⟨rfl, rfl, rfl, trivial⟩, ⟨?_, ?_, trivial⟩, rfl, ?_, ?_⟩
            · rfl
            · refine int_eq ?_; rw [wrap64 (by omega) (by omega)]; show ((y.2.1 : Nat) : Int) + 1 = ((y.2.1 + 1 : Nat) : Int); omega
            · refine ⟨?_, by show 1 ≤ y.2.1 + 1; omega⟩
              have hz := Cmp.yes (j := i + 1 + k2) (x := U) (y := W) (by rw [hk2e] at hy; exact hy) (by rw [hk2e] at hgU; exact hgU) hgW hal2
              rw [show i + 1 + k2 + 2 = i + 1 + (y.2.1 + 1) by omega] at hz
              exact hz
            · show l.length - (y.2.1 + 1) < _; omega
        · try simp only [Z.a, Z.b, Z.c, Z.d, Z.e, Z.f, Z.g, Z.h, Z.i, Z.j, Z.k, Z.l, Z.m] at h4
          have hk2 : y.2.1 + (i + 1) = l.length := by omega
          refine RO.nil ?_
          refine Runs.condF rfl ?_
          refine Runs.exit ?_
          refine thenQ_exit ?_
          refine thenQ_exit ?_
          refine blockQ_here ?_
          refine thenQ_normal ?_
          refine Runs.has [(0, .own 0 _), (1, .fn 49 _), (5, .d (.int _ _))] ⟨rfl, rfl, rfl, trivial⟩ ?_
          refine Runs.rseq ?_
          refine RO.opv (v' := .own 0 _) (opv_move rfl) rfl ?_
          refine RO.opv (v' := .d (.int _ _)) (opv_move rfl) rfl ?_
          refine RO.opv (v' := .osl 0 _ _ _) (opv_slice_oslt rfl rfl rfl (by omega)) rfl ?_
          refine RO.op0n (O' := [_]) (opv_clear_terms rfl rfl (by omega) (by omega)) rfl ?_
          refine RO.nil ?_
          refine Runs.has [(0, .own 0 _), (1, .fn 49 _), (5, .d (.int _ _))] ⟨rfl, rfl, rfl, trivial⟩ ?_
          refine Runs.rseq ?_
          refine RO.opv (v' := .own 0 _) (opv_move rfl) rfl ?_
          refine RO.opv (v' := .d (.int _ _)) (opv_move rfl) rfl ?_
          refine RO.opn (v' := .own 0 _) (O' := [_]) (opv_cut_terms rfl rfl ⟨_, _, rfl, rfl⟩ (.inl rfl) (by simp; omega)) rfl rfl ?_
          refine RO.opv (v' := .own 0 _) (opv_assign rfl) rfl ?_
          refine RO.nil ?_
          refine Runs.ret ?_
          refine blockQ_ret ?_
          refine thenQ_ret ?_
          refine thenQ_ret ?_
          refine blockQ_ret ?_
          refine thenQ_ret ?_
          refine EndQ.tmp (.inr rfl) rfl rfl 1 (by exact Nat.le_refl _) (by simp) (Nat.zero_lt_one) ⟨?_, ?_⟩
          · rw [(hy.fin (by omega) []).2]; rfl
          · rw [(hy.fin (by omega) []).2, ← (hy.fin (v := v) (by omega) (List.replicate (y.2.2.length - y.1) zT)).1]; rfl
      · try simp only [Z.a, Z.b, Z.c, Z.d, Z.e, Z.f, Z.g, Z.h, Z.i, Z.j, Z.k, Z.l, Z.m] at h3
        have hal : ¬ compareT X Y = 0 := by simpa using h3
        refine RD.nil ?_
        refine thenQ_normal ?_
        refine Runs.condF rfl ?_
        refine Runs.skip ?_
        refine blockQ_normal ?_
        refine thenQ_normal ?_
        refine Runs.has [(0, .own 0 _), (1, .fn 49 _), (5, .d (.int _ _))] ⟨rfl, rfl, rfl, trivial⟩ ?_
        refine Runs.region ?_
        refine RO.opv (v' := .d (.int _ _)) (opv_move rfl) rfl ?_
        refine RO.opv (v' := .d (.int _ _)) (opv_bin rfl rfl rfl) rfl ?_
        refine RO.opv (v' := .d (.int _ _)) (opv_assign rfl) rfl ?_
        refine RO.nil ?_
        refine thenQ_normal ?_
        refine ⟨i + 1, 1, (by rw [hK]; exact Nat.le_of_ble_eq_true rfl), ⟨rfl, rfl, trivial⟩, ⟨?_, trivial⟩, rfl, ?_, ?_⟩
        · refine int_eq ?_; rw [wrap64 (by omega) (by omega)]; omega
        · refine ⟨by omega, ?_⟩
          rw [cmpct_not hgx hgy hal, hi2, List.take_succ_eq_append_getElem (show i + 1 < l.length by omega), (List.getElem?_eq_some_iff.1 hgx).2]
        · omega
    · try simp only [Z.a, Z.b, Z.c, Z.d, Z.e, Z.f, Z.g, Z.h, Z.i, Z.j, Z.k, Z.l, Z.m] at h2
      have hk1 : i + 1 = l.length := by omega
      have hcl : cmpct l = l := by rw [hk1, List.take_length] at hi2; exact hi2
      refine RO.nil ?_
      refine Runs.condF rfl ?_
      refine Runs.exit ?_
      refine thenQ_exit ?_
      refine thenQ_exit ?_
      refine blockQ_here ?_
      refine thenQ_normal ?_
      refine Runs.has [(0, .own 0 _)] ⟨rfl, trivial⟩ ?_
      refine Runs.rseq ?_
      refine RO.opv (v' := .own 0 _) (opv_move rfl) rfl ?_
      refine RO.opv (v' := .own 0 _) (opv_assign rfl) rfl ?_
      refine RO.nil ?_
      refine Runs.ret ?_
      refine EndQ.tmp (.inr rfl) rfl rfl 1 (by exact Nat.le_refl _) (by simp) (Nat.zero_lt_one) ⟨?_, ?_⟩
      · rw [cver_same (v := v) hcl]; rfl
      · rw [cver_same (v := v) hcl, hcl]; rfl
theorem cloneX_fn (l : List Term) (hl : l.length ≤ 2 ^ 20) : Fn Try.prog 46 [.d (.list (encs l))] [] (.own 0 2) [.buf 24 4 (encs l) 2] := by
  refine Does.run Try.func46 rfl Try.ntmps46 rfl fun K hK => ?_
  refine Runs.rseq ?_
  refine RO.opv (v' := .nil0) (opv_assign rfl) rfl ?_
  refine RO.nil ?_
  refine Runs.seq ?_
  refine Runs.eqnil rfl rfl rfl (fun h1 => ?_) ?_
  · skip
    refine Runs.condT rfl ?_
    refine Runs.has [(0, .d (.list (encs _))), (2, .nil0)] ⟨rfl, rfl, trivial⟩ ?_
    refine Runs.rseq ?_
    refine RO.opv (v' := .nil0) (opv_assign rfl) rfl ?_
    refine RO.nil ?_
    refine Runs.adopt2 2 24 4 rfl ?_
    refine Runs.ret ?_
    refine thenQ_ret ?_
    refine EndQ.tmp (.inr rfl) rfl rfl 1 (by simp) (by simp) (Nat.zero_lt_one) ⟨?_, ?_⟩
    · rfl
    · rw [encs_nil h1]; rfl
  · skip
    refine Runs.condF rfl ?_
    refine Runs.skip ?_
    refine thenQ_normal ?_
    refine Runs.has [(0, .d (.list (encs _))), (2, .nil0)] ⟨rfl, rfl, trivial⟩ ?_
    refine Runs.rseq ?_
    refine RO.opv (v' := .nil0) (opv_buildSlice0 rfl) rfl ?_
    refine RO.opv (v' := .d (.list (encs _))) (opv_move rfl) rfl ?_
    refine RO.opn (v' := .own 0 _) (O' := [_]) (opv_append_terms0 rfl rfl (by omega)) rfl rfl ?_
    refine RO.opv (v' := .own 0 _) (opv_assign rfl) rfl ?_
    refine RO.nil ?_
    refine Runs.ret ?_
    refine EndQ.tmp (.inr rfl) rfl rfl 1 (by simp) (by simp) (Nat.zero_lt_one) ⟨?_, ?_⟩
    · rfl
    · rfl
theorem sort_fn (l : List Term) (hn : l.length ≤ 30) (hbk : ∀ x ∈ l, x.bulk ≤ 2 ^ 30) : Fn Try.prog 22 [.d (.list (encs l))] [] (.d (.list (encs (sortR l)))) [] := by
  have hil : (isrt l).length = l.length := isrt_len _ l rfl
  have hib : ∀ x ∈ isrt l, x.bulk ≤ 2 ^ 30 := fun x hx => hbk x ((isrt_mem l x).1 hx)
  refine Does.run Try.func22 rfl Try.ntmps22 rfl fun K hK => ?_
  refine Runs.rseq ?_
  refine RO.opv (v' := .nil0) (opv_assign rfl) rfl ?_
  refine RO.nil ?_
  refine Runs.rseq ?_
  refine RO.opv (v' := .d (.list (encs _))) (opv_move rfl) rfl ?_
  refine RO.opn (v' := .own 0 _) (O' := [_]) (opv_callN 0 (cloneX_fn l (by omega)) rfl rfl rfl) rfl rfl ?_
  refine RO.opv (v' := .own 0 _) (opv_assign rfl) rfl ?_
  refine RO.nil ?_
  refine Runs.has [(2, .nil0), (3, .own 0 _)] ⟨rfl, rfl, trivial⟩ ?_
  refine Runs.rseq ?_
  refine RO.opv (v' := .own 0 _) (opv_move rfl) rfl ?_
  refine RO.opn (O' := [_]) (opv_callP 1 (sortst_fn l 2 hn hbk) rfl rfl (Nat.le_of_ble_eq_true rfl) rfl (AV.bds_of_B _ rfl)) rfl rfl ?_
  refine RO.nil ?_
  refine Runs.has [(2, .nil0), (3, .own 0 _)] ⟨rfl, rfl, trivial⟩ ?_
  refine Runs.rseq ?_
  refine RO.opv (v' := .own 0 _) (opv_move rfl) rfl ?_
  refine RO.opn (v' := .own 0 _) (O' := [_]) (opv_callP 1 (compact_fn (isrt l) 2 (by omega) hib) rfl rfl (Nat.le_of_ble_eq_true rfl) rfl (AV.bds_of_B _ rfl)) rfl rfl ?_
  refine RO.opv (v' := .own 0 _) (opv_assign rfl) rfl ?_
  refine RO.nil ?_
  refine Runs.shut 2 rfl rfl ?_
  refine Runs.ret ?_
  refine EndQ.tmp (.inr rfl) rfl rfl 0 (by exact Nat.le_refl _) (by exact Nat.zero_le _) trivial ⟨?_, rfl⟩
  rw [sortR, ← cmpct_fold _ l rfl]; rfl
end Go.Proofs.Ythpiggjclhnkcaa.AM
