import Derived.Test.YtohncglpjiplaaaFg
import Derived.Test.YtohncglpjiplaaaY3
namespace Go.Proofs.Ytohncglpjiplaaa.AM
open Go
set_option linter.unusedVariables false
set_option linter.unusedSimpArgs false
set_option maxRecDepth 100000
theorem table_fn (n : Nat) (hn1 : 1 ≤ n) (hn16 : n ≤ 16) (ps : List (Int × Int)) (hpl : ps.length ≤ 2 ^ 30) (hps : ∀ p ∈ ps, 0 ≤ p.1 ∧ p.1 < n ∧ 0 ≤ p.2 ∧ p.2 < n) : Fn Try.prog 30 [.d (.int .i64 (n : Nat)), .d (.list (encPs ps))] [] (.d (.list (rowsD (tabF n ps)))) [] := by
  refine Does.run Try.func30 rfl Try.ntmps30 rfl fun K hK => ?_
  refine Runs.rseq ?_
  refine RO.opv (v' := .nil0) (opv_assign rfl) rfl ?_
  refine RO.nil ?_
  refine Runs.rseq ?_
  refine RO.opv (v' := .nil0) (opv_assign rfl) rfl ?_
  refine RO.nil ?_
  refine Runs.seq ?_
  refine Runs.rseq ?_
  refine RO.opv (v' := .d (.int _ _)) (opv_assign rfl) rfl ?_
  refine RO.nil ?_
  refine Runs.block ?_
  refine Runs.loopC (X := Nat) (fun u => u ≤ n) (fun u => n - u) [(0, .d (.int _ _)), (1, .d (.list (encPs _))), (4, .nil0)] (fun u => [(5, tA u), (6, .d (.int .i64 (u : Nat)))]) [] (fun u => tobjs 4 70 (rowsF n ps u)) (0) ⟨rfl, rfl, rfl, trivial⟩ ⟨rfl, rfl, trivial⟩ (by simp [tobjs, rowsF]) (by omega) fun u hu0 => ?_
  refine Runs.seq ?_
  refine Runs.rseq ?_
  refine RO.opv (v' := .d (.int _ _)) (opv_move rfl) rfl ?_
  refine RO.opv (v' := .d (.int _ _)) (opv_move rfl) rfl ?_
  refine RO.opc (opv_bin rfl rfl rfl) (fun h1 => ?_) (fun h1 => ?_)
  · try simp only [Z.a, Z.b, Z.c, Z.d, Z.e, Z.f, Z.g, Z.h, Z.i, Z.j, Z.k, Z.l, Z.m] at h1
    have hu : u < n := by omega
    have hk0 : (tobjs 4 70 (rowsF n ps u)).length = 3 * u := by rw [tobjs_len, rowsF_len]
    refine RO.nil ?_
    refine Runs.condT rfl ?_
    refine Runs.skip ?_
    refine thenQ_normal ?_
    refine Runs.has [(0, .d (.int _ _)), (1, .d (.list (encPs _))), (4, .nil0), (5, _), (6, .d (.int _ _))] ⟨rfl, rfl, rfl, rfl, rfl, trivial⟩ ?_
    refine Runs.seq ?_
    refine Runs.block ?_
    refine Runs.rseq ?_
    refine RO.opv (v' := .d (.int _ _)) (opv_move rfl) rfl ?_
    refine RO.opn (opv_make_at hk0 rfl rfl (by omega)) rfl rfl ?_
    refine RO.opv (opv_assign rfl) rfl ?_
    refine RO.nil ?_
    refine Runs.has [(0, .d (.int _ _)), (1, .d (.list (encPs _))), (4, .nil0), (5, _), (6, .d (.int _ _)), (7, _)] ⟨rfl, rfl, rfl, rfl, rfl, rfl, trivial⟩ ?_
    refine Runs.rseq ?_
    refine RO.opv (opv_move rfl) rfl ?_
    refine RO.opv (v' := .d (.int _ _)) (opv_move rfl) rfl ?_
    refine RO.opv (opv_index_row rfl (obj_last hk0) rfl (Int.natCast_nonneg _) (by simp; omega)) rfl ?_
    refine RO.op0n (opv_store_row rfl (obj_last hk0) rfl (by simp; omega)) rfl ?_
    refine RO.nil ?_
    refine Runs.has [(0, .d (.int _ _)), (1, .d (.list (encPs _))), (4, .nil0), (5, _), (6, .d (.int _ _)), (7, _)] ⟨rfl, rfl, rfl, rfl, rfl, rfl, trivial⟩ ?_
    refine Runs.seq ?_
    refine Runs.rseq ?_
    refine RO.opv (v' := .d (.int _ _)) (opv_assign rfl) rfl ?_
    refine RO.nil ?_
    refine Runs.block ?_
    refine Runs.loopC (X := Nat) (fun i => i ≤ ps.length) (fun i => ps.length - i) [(0, .d (.int _ _)), (1, .d (.list (encPs _))), (4, .nil0), (6, .d (.int _ _))] (fun i => [(5, tA u), (7, .own (3 * u) 1), (8, .d (.int .i64 (i : Nat)))]) [] (fun i => tobjs 4 70 (rowsF n ps u) ++ [.buf 4 1 (bools (rowF n u (ps.take i))) 1]) (0) ⟨rfl, rfl, rfl, rfl, trivial⟩ ⟨rfl, rfl, rfl, trivial⟩ (by simp only [List.nil_append]; rw [set_last hk0]; rfl) (by omega) fun i hi => ?_
    refine Runs.seq ?_
    refine Runs.rseq ?_
    refine RO.opv (v' := .d (.int _ _)) (opv_move rfl) rfl ?_
    refine RO.opv (v' := .d (.list (encPs _))) (opv_move rfl) rfl ?_
    refine RO.opv (v' := .d (.int _ _)) (opv_len_pairs rfl) rfl ?_
    refine RO.opc (opv_bin rfl rfl rfl) (fun h2 => ?_) (fun h2 => ?_)
    · try simp only [Z.a, Z.b, Z.c, Z.d, Z.e, Z.f, Z.g, Z.h, Z.i, Z.j, Z.k, Z.l, Z.m] at h2
      have hk : i < ps.length := by omega
      obtain ⟨hp0, hp1, hp2, hp3⟩ := hps _ (List.getElem_mem hk)
      refine RO.nil ?_
      refine Runs.condT rfl ?_
      refine Runs.skip ?_
      refine thenQ_normal ?_
      refine Runs.has [(0, .d (.int _ _)), (1, .d (.list (encPs _))), (4, .nil0), (5, _), (6, .d (.int _ _)), (7, _), (8, .d (.int _ _))] ⟨rfl, rfl, rfl, rfl, rfl, rfl, rfl, trivial⟩ ?_
      refine Runs.seq ?_
      refine Runs.block ?_
      refine Runs.rseq ?_
      refine RO.opv (v' := .d (.list (encPs _))) (opv_move rfl) rfl ?_
      refine RO.opv (v' := .d (.int _ _)) (opv_move rfl) rfl ?_
      refine RO.opv (v' := .d (.ptr _)) (opv_index_pairs rfl rfl hk) rfl ?_
      refine RO.opv (v' := .d (.ptr _)) (opv_index_aptr (i := 0) rfl rfl (by decide) (by decide)) rfl ?_
      refine RO.opv (v' := .d (.int _ _)) (opv_load_ptr rfl rfl) rfl ?_
      refine RO.opv (v' := .d (.int _ _)) (opv_move rfl) rfl ?_
      refine RO.opc (opv_bin rfl rfl rfl) (fun h3 => ?_) (fun h3 => ?_)
      · try simp only [Z.a, Z.b, Z.c, Z.d, Z.e, Z.f, Z.g, Z.h, Z.i, Z.j, Z.k, Z.l, Z.m] at h3
        have hq := h3
        refine RO.nil ?_
        refine Runs.condT rfl ?_
        refine Runs.has [(0, .d (.int _ _)), (1, .d (.list (encPs _))), (4, .nil0), (5, _), (6, .d (.int _ _)), (7, _), (8, .d (.int _ _))] ⟨rfl, rfl, rfl, rfl, rfl, rfl, rfl, trivial⟩ ?_
        refine Runs.region ?_
        refine RO.opv (opv_move rfl) rfl ?_
        refine RO.opv (v' := .d (.list (encPs _))) (opv_move rfl) rfl ?_
        refine RO.opv (v' := .d (.int _ _)) (opv_move rfl) rfl ?_
        refine RO.opv (v' := .d (.ptr _)) (opv_index_pairs rfl rfl hk) rfl ?_
        refine RO.opv (v' := .d (.ptr _)) (opv_index_aptr (i := 1) rfl rfl (by decide) (by decide)) rfl ?_
        refine RO.opv (v' := .d (.int _ _)) (opv_load_ptr rfl rfl) rfl ?_
        refine RO.opv (opv_index_row rfl (obj_last hk0) rfl hp2 (by rw [rowF_len]; exact hp3)) rfl ?_
        refine RO.op0n (opv_store_row rfl (obj_last hk0) rfl (by rw [rowF_len]; omega)) rfl ?_
        refine RO.nil ?_
        refine blockQ_normal ?_
        refine thenQ_normal ?_
        refine Runs.has [(0, .d (.int _ _)), (1, .d (.list (encPs _))), (4, .nil0), (5, _), (6, .d (.int _ _)), (7, _), (8, .d (.int _ _))] ⟨rfl, rfl, rfl, rfl, rfl, rfl, rfl, trivial⟩ ?_
        refine Runs.region ?_
        refine RO.opv (v' := .d (.int _ _)) (opv_move rfl) rfl ?_
        refine RO.opv (v' := .d (.int _ _)) (opv_bin rfl rfl rfl) rfl ?_
        refine RO.opv (v' := .d (.int _ _)) (opv_assign rfl) rfl ?_
        refine RO.nil ?_
        refine thenQ_normal ?_
        refine ⟨i + 1, (3 * u + 1), (by rw [hK]; exact Nat.zero_le _), ⟨rfl, rfl, rfl, rfl, trivial⟩, ⟨?_, ?_, ?_, trivial⟩, ?_, ?_, ?_⟩
        · exact kill_tA (by omega)
        · exact kill_own (by omega)
        · refine int_eq ?_; rw [wrap64 (by omega) (by omega)]; omega
        · simp only [List.nil_append]
          first
            | (rw [set_last hk0, List.take_of_length_le (by simp [hk0]), rowF_take hk, if_pos hq]; first | done | rfl)
            | (rw [List.take_of_length_le (by simp [hk0]), rowF_take hk, if_neg hq]; first | done | rfl)
        · omega
        · omega
      · try simp only [Z.a, Z.b, Z.c, Z.d, Z.e, Z.f, Z.g, Z.h, Z.i, Z.j, Z.k, Z.l, Z.m] at h3
        have hq := h3
        refine RO.nil ?_
        refine Runs.condF rfl ?_
        refine Runs.skip ?_
        refine blockQ_normal ?_
        refine thenQ_normal ?_
        refine Runs.has [(0, .d (.int _ _)), (1, .d (.list (encPs _))), (4, .nil0), (5, _), (6, .d (.int _ _)), (7, _), (8, .d (.int _ _))] ⟨rfl, rfl, rfl, rfl, rfl, rfl, rfl, trivial⟩ ?_
        refine Runs.region ?_
        refine RO.opv (v' := .d (.int _ _)) (opv_move rfl) rfl ?_
        refine RO.opv (v' := .d (.int _ _)) (opv_bin rfl rfl rfl) rfl ?_
        refine RO.opv (v' := .d (.int _ _)) (opv_assign rfl) rfl ?_
        refine RO.nil ?_
        refine thenQ_normal ?_
        refine ⟨i + 1, (3 * u + 1), (by rw [hK]; exact Nat.zero_le _), ⟨rfl, rfl, rfl, rfl, trivial⟩, ⟨?_, ?_, ?_, trivial⟩, ?_, ?_, ?_⟩
        · exact kill_tA (by omega)
        · exact kill_own (by omega)
        · refine int_eq ?_; rw [wrap64 (by omega) (by omega)]; omega
        · simp only [List.nil_append]
          first
            | (rw [set_last hk0, List.take_of_length_le (by simp [hk0]), rowF_take hk, if_pos hq]; first | done | rfl)
            | (rw [List.take_of_length_le (by simp [hk0]), rowF_take hk, if_neg hq]; first | done | rfl)
        · omega
        · omega
    · try simp only [Z.a, Z.b, Z.c, Z.d, Z.e, Z.f, Z.g, Z.h, Z.i, Z.j, Z.k, Z.l, Z.m] at h2
      have hk : i = ps.length := by omega
      refine RO.nil ?_
      refine Runs.condF rfl ?_
      refine Runs.exit ?_
      refine thenQ_exit ?_
      refine thenQ_exit ?_
      refine blockQ_here ?_
      refine thenQ_normal ?_
      refine Runs.has [(0, .d (.int _ _)), (1, .d (.list (encPs _))), (4, .nil0), (5, _), (6, .d (.int _ _)), (7, _)] ⟨rfl, rfl, rfl, rfl, rfl, rfl, trivial⟩ ?_
      refine Runs.region ?_
      refine RO.opv (opv_move rfl) rfl ?_
      refine RO.opv (opv_move rfl) rfl ?_
      refine RO.opn (opv_bs_at (k0 := 3 * u + 1) (by simp [hk0]) rfl rfl (Nat.lt_succ_self _)) rfl rfl ?_
      refine RO.opn (opv_append_T (M := rowsF n ps u) (r := rowF n u ps) (rowsF_len _ _ _) rfl rfl (by rw [hk, List.take_length]; rfl) (by omega)) rfl rfl ?_
      refine RO.opv (opv_assign rfl) rfl ?_
      refine RO.nil ?_
      refine blockQ_normal ?_
      refine thenQ_normal ?_
      refine Runs.has [(0, .d (.int _ _)), (1, .d (.list (encPs _))), (4, .nil0), (5, _), (6, .d (.int _ _))] ⟨rfl, rfl, rfl, rfl, rfl, trivial⟩ ?_
      refine Runs.region ?_
      refine RO.opv (v' := .d (.int _ _)) (opv_move rfl) rfl ?_
      refine RO.opv (v' := .d (.int _ _)) (opv_bin rfl rfl rfl) rfl ?_
      refine RO.opv (v' := .d (.int _ _)) (opv_assign rfl) rfl ?_
      refine RO.nil ?_
      refine thenQ_normal ?_
      refine ⟨u + 1, (3 * (u + 1)), (by rw [hK]; exact Nat.zero_le _), ⟨rfl, rfl, rfl, trivial⟩, ⟨?_, ?_, trivial⟩, ?_, ?_, ?_⟩
      · show AV.kill _ (.own (3 * u + 2) 0) = tA (u + 1)
        rw [kill_own (by omega)]; unfold tA; rw [if_neg (by omega)]; congr 1
      · refine int_eq ?_; rw [wrap64 (by omega) (by omega)]; omega
      · rw [rowsF_succ]; exact List.take_of_length_le (by rw [tobjs_len]; simp [rowsF_len])
      · omega
      · omega
  · try simp only [Z.a, Z.b, Z.c, Z.d, Z.e, Z.f, Z.g, Z.h, Z.i, Z.j, Z.k, Z.l, Z.m] at h1
    have hu : u = n := by omega
    refine RO.nil ?_
    refine Runs.condF rfl ?_
    refine Runs.exit ?_
    refine thenQ_exit ?_
    refine thenQ_exit ?_
    refine blockQ_here ?_
    refine thenQ_normal ?_
    refine Runs.has [(0, .d (.int _ _)), (4, .nil0), (5, _)] ⟨rfl, rfl, rfl, trivial⟩ ?_
    refine Runs.seq ?_
    refine Runs.rseq ?_
    refine RO.opv (v' := .d (.int _ _)) (opv_assign rfl) rfl ?_
    refine RO.nil ?_
    refine Runs.block ?_
    rw [hu]
    refine Runs.loopC (X := Nat) (fun c => c ≤ n) (fun c => n - c) [(0, .d (.int _ _)), (4, .nil0)] (fun c => [(5, .own (3 * n - 1) 0), (9, .d (.int .i64 (c : Nat)))]) [] (fun c => tobjs 4 70 (tabC n (rowsF n ps n) c)) (0) ⟨rfl, rfl, trivial⟩ ⟨(show tA n = _ from if_neg (by omega)), rfl, trivial⟩ rfl (by omega) fun c hc0 => ?_
    refine Runs.seq ?_
    refine Runs.rseq ?_
    refine RO.opv (v' := .d (.int _ _)) (opv_move rfl) rfl ?_
    refine RO.opv (v' := .d (.int _ _)) (opv_move rfl) rfl ?_
    refine RO.opc (opv_bin rfl rfl rfl) (fun h4 => ?_) (fun h4 => ?_)
    · try simp only [Z.a, Z.b, Z.c, Z.d, Z.e, Z.f, Z.g, Z.h, Z.i, Z.j, Z.k, Z.l, Z.m] at h4
      have hc : c < n := by omega
      have hsC := (Sq.rows n ps).tabC c
      refine RO.nil ?_
      refine Runs.condT rfl ?_
      refine Runs.skip ?_
      refine thenQ_normal ?_
      refine Runs.has [(0, .d (.int _ _)), (4, .nil0), (5, _), (9, .d (.int _ _))] ⟨rfl, rfl, rfl, rfl, trivial⟩ ?_
      refine Runs.seq ?_
      refine Runs.block ?_
      refine Runs.rseq ?_
      refine RO.opv (v' := .d (.int _ _)) (opv_assign rfl) rfl ?_
      refine RO.nil ?_
      refine Runs.block ?_
      refine Runs.loopC (X := Nat) (fun a => a ≤ n) (fun a => n - a) [(0, .d (.int _ _)), (4, .nil0), (9, .d (.int _ _))] (fun a => [(5, .own (3 * n - 1) 0), (10, .d (.int .i64 (a : Nat)))]) [] (fun a => tobjs 4 70 (tabA n c (tabC n (rowsF n ps n) c) a)) (0) ⟨rfl, rfl, rfl, trivial⟩ ⟨rfl, rfl, trivial⟩ rfl (by omega) fun a ha0 => ?_
      refine Runs.seq ?_
      refine Runs.rseq ?_
      refine RO.opv (v' := .d (.int _ _)) (opv_move rfl) rfl ?_
      refine RO.opv (v' := .d (.int _ _)) (opv_move rfl) rfl ?_
      refine RO.opc (opv_bin rfl rfl rfl) (fun h5 => ?_) (fun h5 => ?_)
      · try simp only [Z.a, Z.b, Z.c, Z.d, Z.e, Z.f, Z.g, Z.h, Z.i, Z.j, Z.k, Z.l, Z.m] at h5
        have ha : a < n := by omega
        have hsA : Sq n (tabA n c (tabC n (rowsF n ps n) c) a) := hsC.tabA a
        refine RO.nil ?_
        refine Runs.condT rfl ?_
        refine Runs.skip ?_
        refine thenQ_normal ?_
        refine Runs.has [(0, .d (.int _ _)), (4, .nil0), (5, _), (9, .d (.int _ _)), (10, .d (.int _ _))] ⟨rfl, rfl, rfl, rfl, rfl, trivial⟩ ?_
        refine Runs.seq ?_
        refine Runs.block ?_
        refine Runs.rseq ?_
        refine RO.opv (v' := .d (.int _ _)) (opv_assign rfl) rfl ?_
        refine RO.nil ?_
        refine Runs.block ?_
        refine Runs.loopC (X := Nat) (fun b => b ≤ n) (fun b => n - b) [(0, .d (.int _ _)), (4, .nil0), (9, .d (.int _ _)), (10, .d (.int _ _))] (fun b => [(5, .own (3 * n - 1) 0), (11, .d (.int .i64 (b : Nat)))]) [] (fun b => tobjs 4 70 (tabB c a (tabA n c (tabC n (rowsF n ps n) c) a) b)) (0) ⟨rfl, rfl, rfl, rfl, trivial⟩ ⟨rfl, rfl, trivial⟩ rfl (by omega) fun b hb0 => ?_
        refine Runs.seq ?_
        refine Runs.rseq ?_
        refine RO.opv (v' := .d (.int _ _)) (opv_move rfl) rfl ?_
        refine RO.opv (v' := .d (.int _ _)) (opv_move rfl) rfl ?_
        refine RO.opc (opv_bin rfl rfl rfl) (fun h6 => ?_) (fun h6 => ?_)
        · try simp only [Z.a, Z.b, Z.c, Z.d, Z.e, Z.f, Z.g, Z.h, Z.i, Z.j, Z.k, Z.l, Z.m] at h6
          have hb : b < n := by omega
          have hs : Sq n (tabB c a (tabA n c (tabC n (rowsF n ps n) c) a) b) := hsA.tabB b
          have hpos : 0 < (tabB c a (tabA n c (tabC n (rowsF n ps n) c) a) b).length := by rw [hs.1]; omega
          have hlen := hs.1
          have hra : a < (tabB c a (tabA n c (tabC n (rowsF n ps n) c) a) b).length := by rw [hs.1]; exact ha
          have hrc : c < (tabB c a (tabA n c (tabC n (rowsF n ps n) c) a) b).length := by rw [hs.1]; exact hc
          have hlast : (tobjs 4 70 (tabB c a (tabA n c (tabC n (rowsF n ps n) c) a) b))[3 * n - 1]? = some (.vbuf 70 (ownsT n)) := by have := tobjs_last (e := 4) (et := 70) hpos; rwa [hs.1] at this
          have hav : a < (ownsT n).length := by rw [ownsT_len]; exact ha
          have hcv : c < (ownsT n).length := by rw [ownsT_len]; exact hc
          have hla := hs.row hra
          have hlc := hs.row hrc
          have hbi : (b : Int) < ((tabB c a (tabA n c (tabC n (rowsF n ps n) c) a) b)[a].length : Nat) := by rw [hla]; omega
          have hci : (c : Int) < ((tabB c a (tabA n c (tabC n (rowsF n ps n) c) a) b)[a].length : Nat) := by rw [hla]; omega
          have hbc : (b : Int) < ((tabB c a (tabA n c (tabC n (rowsF n ps n) c) a) b)[c].length : Nat) := by rw [hlc]; omega
          have hbr : b < (tabB c a (tabA n c (tabC n (rowsF n ps n) c) a) b)[a].length := by rw [hla]; exact hb
          have hcr : c < (tabB c a (tabA n c (tabC n (rowsF n ps n) c) a) b)[a].length := by rw [hla]; exact hc
          have hbcr : b < (tabB c a (tabA n c (tabC n (rowsF n ps n) c) a) b)[c].length := by rw [hlc]; exact hb
          refine RO.nil ?_
          refine Runs.condT rfl ?_
          refine Runs.skip ?_
          refine thenQ_normal ?_
          refine Runs.has [(0, .d (.int _ _)), (4, .nil0), (5, _), (9, .d (.int _ _)), (10, .d (.int _ _)), (11, .d (.int _ _))] ⟨rfl, rfl, rfl, rfl, rfl, rfl, trivial⟩ ?_
          refine Runs.seq ?_
          refine Runs.block ?_
          refine Runs.drawn (by kernel_rfl) [] [false, false, false, false, false, false, false, false, false, false, false, false, false, false, false, false, false, false, false, false, false, false, false, false, false, false, false, false, false, false, false, false] [false, false, false, false, false, false, false, false, false, false, false, false, false, false, false, false, false, false, false, false, false, false, false, false, false, false, false, false, false, false, false, true] (by decide +kernel) ?_
          refine RD.opv (opv_move rfl) rfl ?_
          refine RD.opv (v' := .d (.int _ _)) (opv_move rfl) rfl ?_
          refine RD.opv (opv_index_v rfl hlast rfl hav) rfl ?_
          refine RD.opv (opv_load_v rfl hlast (ownsT_get ha)) rfl ?_
          refine RD.opv (v' := .d (.int _ _)) (opv_move rfl) rfl ?_
          refine RD.opv (opv_move rfl) rfl ?_
          refine RD.opv (v' := .d (.int _ _)) (opv_move rfl) rfl ?_
          refine RD.opv (opv_index_v rfl hlast rfl hav) rfl ?_
          refine RD.opv (opv_load_v rfl hlast (ownsT_get ha)) rfl ?_
          refine RD.opv (v' := .d (.int _ _)) (opv_move rfl) rfl ?_
          refine RD.opv (opv_index_row rfl (tobjs_row hra) rfl (Int.natCast_nonneg _) hbi) rfl ?_
          refine RD.opv (v' := .d (.bool _)) (opv_load_row rfl (tobjs_row hra) hbr) rfl ?_
          refine RD.opc (opv_move rfl) (fun h7 => ?_) (fun h7 => ?_)
          · try simp only [Z.a, Z.b, Z.c, Z.d, Z.e, Z.f, Z.g, Z.h, Z.i, Z.j, Z.k, Z.l, Z.m] at h7
            have e1 := h7
            refine RD.off rfl ?_
            refine RD.off rfl ?_
            refine RD.off rfl ?_
            refine RD.off rfl ?_
            refine RD.off rfl ?_
            refine RD.off rfl ?_
            refine RD.off rfl ?_
            refine RD.off rfl ?_
            refine RD.off rfl ?_
            refine RD.off rfl ?_
            refine RD.off rfl ?_
            refine RD.off rfl ?_
            refine RD.off rfl ?_
            refine RD.off rfl ?_
            refine RD.off rfl ?_
            refine RD.off rfl ?_
            refine RD.opv (v' := .d (.bool true)) (opv_pick rfl rfl) rfl ?_
            refine RD.opv (opv_index_row rfl (tobjs_row hra) rfl (Int.natCast_nonneg _) hbi) rfl ?_
            refine RD.op0n (opv_store_row rfl (tobjs_row hra) rfl hbr) rfl trivial ?_
            refine RD.nil ?_
            refine blockQ_normal ?_
            refine thenQ_normal ?_
            refine Runs.has [(0, .d (.int _ _)), (4, .nil0), (5, _), (9, .d (.int _ _)), (10, .d (.int _ _)), (11, .d (.int _ _))] ⟨rfl, rfl, rfl, rfl, rfl, rfl, trivial⟩ ?_
            refine Runs.region ?_
            refine RO.opv (v' := .d (.int _ _)) (opv_move rfl) rfl ?_
            refine RO.opv (v' := .d (.int _ _)) (opv_bin rfl rfl rfl) rfl ?_
            refine RO.opv (v' := .d (.int _ _)) (opv_assign rfl) rfl ?_
            refine RO.nil ?_
            refine thenQ_normal ?_
            refine ⟨b + 1, (3 * n), (by rw [hK]; exact Nat.zero_le _), ⟨rfl, rfl, rfl, rfl, trivial⟩, ⟨?_, ?_, trivial⟩, ?_, ?_, ?_⟩
            · exact kill_own (by omega)
            · refine int_eq ?_; rw [wrap64 (by omega) (by omega)]; omega
            · simp only [List.nil_append]
              refine (List.take_of_length_le (by rw [List.length_set, tobjs_len, hs.1]; exact Nat.le_refl _)).trans ?_
              rw [tabB_succ, stepT_eq hra hrc hbr hcr hbcr]
              refine (tobjs_set hra).trans ?_
              first
                | (rw [show (tabB c a (tabA n c (tabC n (rowsF n ps n) c) a) b)[a][b] = true from e1]; rfl)
                | (rw [show (tabB c a (tabA n c (tabC n (rowsF n ps n) c) a) b)[a][b] = false from e1, show (tabB c a (tabA n c (tabC n (rowsF n ps n) c) a) b)[a][c] = true from e2]; rfl)
                | (rw [show (tabB c a (tabA n c (tabC n (rowsF n ps n) c) a) b)[a][b] = false from e1, show (tabB c a (tabA n c (tabC n (rowsF n ps n) c) a) b)[a][c] = false from e2]; rfl)
            · omega
            · omega
          · try simp only [Z.a, Z.b, Z.c, Z.d, Z.e, Z.f, Z.g, Z.h, Z.i, Z.j, Z.k, Z.l, Z.m] at h7
            have e1 := h7
            refine RD.opgv rfl (opv_move rfl) rfl ?_
            refine RD.opgv (v' := .d (.int _ _)) rfl (opv_move rfl) rfl ?_
            refine RD.opgv rfl (opv_index_v rfl hlast rfl hav) rfl ?_
            refine RD.opgv rfl (opv_load_v rfl hlast (ownsT_get ha)) rfl ?_
            refine RD.opgv (v' := .d (.int _ _)) rfl (opv_move rfl) rfl ?_
            refine RD.opgv rfl (opv_index_row rfl (tobjs_row hra) rfl (Int.natCast_nonneg _) hci) rfl ?_
            refine RD.opgv (v' := .d (.bool _)) rfl (opv_load_row rfl (tobjs_row hra) hcr) rfl ?_
            refine RD.opgc rfl (opv_move rfl) (fun h8 => ?_) (fun h8 => ?_)
            · try simp only [Z.a, Z.b, Z.c, Z.d, Z.e, Z.f, Z.g, Z.h, Z.i, Z.j, Z.k, Z.l, Z.m] at h8
              have e2 := h8
              refine RD.opgv rfl (opv_move rfl) rfl ?_
              refine RD.opgv (v' := .d (.int _ _)) rfl (opv_move rfl) rfl ?_
              refine RD.opgv rfl (opv_index_v rfl hlast rfl hcv) rfl ?_
              refine RD.opgv rfl (opv_load_v rfl hlast (ownsT_get hc)) rfl ?_
              refine RD.opgv (v' := .d (.int _ _)) rfl (opv_move rfl) rfl ?_
              refine RD.opgv rfl (opv_index_row rfl (tobjs_row hrc) rfl (Int.natCast_nonneg _) hbc) rfl ?_
              refine RD.opgv (v' := .d (.bool _)) rfl (opv_load_row rfl (tobjs_row hrc) hbcr) rfl ?_
              refine RD.opgv (v' := .d (.bool _)) rfl (opv_pick rfl rfl) rfl ?_
              refine RD.opv (v' := .d (.bool _)) (opv_pick rfl rfl) rfl ?_
              refine RD.opv (opv_index_row rfl (tobjs_row hra) rfl (Int.natCast_nonneg _) hbi) rfl ?_
              refine RD.op0n (opv_store_row rfl (tobjs_row hra) rfl hbr) rfl trivial ?_
              refine RD.nil ?_
              refine blockQ_normal ?_
              refine thenQ_normal ?_
              refine Runs.has [(0, .d (.int _ _)), (4, .nil0), (5, _), (9, .d (.int _ _)), (10, .d (.int _ _)), (11, .d (.int _ _))] ⟨rfl, rfl, rfl, rfl, rfl, rfl, trivial⟩ ?_
              refine Runs.region ?_
              refine RO.opv (v' := .d (.int _ _)) (opv_move rfl) rfl ?_
              refine RO.opv (v' := .d (.int _ _)) (opv_bin rfl rfl rfl) rfl ?_
              refine RO.opv (v' := .d (.int _ _)) (opv_assign rfl) rfl ?_
              refine RO.nil ?_
              refine thenQ_normal ?_
              refine ⟨b + 1, (3 * n), (by rw [hK]; exact Nat.zero_le _), ⟨rfl, rfl, rfl, rfl, trivial⟩, ⟨?_, ?_, trivial⟩, ?_, ?_, ?_⟩
              · exact kill_own (by omega)
              · refine int_eq ?_; rw [wrap64 (by omega) (by omega)]; omega
              · simp only [List.nil_append]
                refine (List.take_of_length_le (by rw [List.length_set, tobjs_len, hs.1]; exact Nat.le_refl _)).trans ?_
                rw [tabB_succ, stepT_eq hra hrc hbr hcr hbcr]
                refine (tobjs_set hra).trans ?_
                first
                  | (rw [show (tabB c a (tabA n c (tabC n (rowsF n ps n) c) a) b)[a][b] = true from e1]; rfl)
                  | (rw [show (tabB c a (tabA n c (tabC n (rowsF n ps n) c) a) b)[a][b] = false from e1, show (tabB c a (tabA n c (tabC n (rowsF n ps n) c) a) b)[a][c] = true from e2]; rfl)
                  | (rw [show (tabB c a (tabA n c (tabC n (rowsF n ps n) c) a) b)[a][b] = false from e1, show (tabB c a (tabA n c (tabC n (rowsF n ps n) c) a) b)[a][c] = false from e2]; rfl)
              · omega
              · omega
            · try simp only [Z.a, Z.b, Z.c, Z.d, Z.e, Z.f, Z.g, Z.h, Z.i, Z.j, Z.k, Z.l, Z.m] at h8
              have e2 := h8
              refine RD.off rfl ?_
              refine RD.off rfl ?_
              refine RD.off rfl ?_
              refine RD.off rfl ?_
              refine RD.off rfl ?_
              refine RD.off rfl ?_
              refine RD.off rfl ?_
              refine RD.opgv (v' := .d (.bool false)) rfl (opv_pick rfl rfl) rfl ?_
              refine RD.opv (v' := .d (.bool false)) (opv_pick rfl rfl) rfl ?_
              refine RD.opv (opv_index_row rfl (tobjs_row hra) rfl (Int.natCast_nonneg _) hbi) rfl ?_
              refine RD.op0n (opv_store_row rfl (tobjs_row hra) rfl hbr) rfl trivial ?_
              refine RD.nil ?_
              refine blockQ_normal ?_
              refine thenQ_normal ?_
              refine Runs.has [(0, .d (.int _ _)), (4, .nil0), (5, _), (9, .d (.int _ _)), (10, .d (.int _ _)), (11, .d (.int _ _))] ⟨rfl, rfl, rfl, rfl, rfl, rfl, trivial⟩ ?_
              refine Runs.region ?_
              refine RO.opv (v' := .d (.int _ _)) (opv_move rfl) rfl ?_
              refine RO.opv (v' := .d (.int _ _)) (opv_bin rfl rfl rfl) rfl ?_
              refine RO.opv (v' := .d (.int _ _)) (opv_assign rfl) rfl ?_
              refine RO.nil ?_
              refine thenQ_normal ?_
              refine ⟨b + 1, (3 * n), (by rw [hK]; exact Nat.zero_le _), ⟨rfl, rfl, rfl, rfl, trivial⟩, ⟨?_, ?_, trivial⟩, ?_, ?_, ?_⟩
              · exact kill_own (by omega)
              · refine int_eq ?_; rw [wrap64 (by omega) (by omega)]; omega
              · simp only [List.nil_append]
                refine (List.take_of_length_le (by rw [List.length_set, tobjs_len, hs.1]; exact Nat.le_refl _)).trans ?_
                rw [tabB_succ, stepT_eq hra hrc hbr hcr hbcr]
                refine (tobjs_set hra).trans ?_
                first
                  | (rw [show (tabB c a (tabA n c (tabC n (rowsF n ps n) c) a) b)[a][b] = true from e1]; rfl)
                  | (rw [show (tabB c a (tabA n c (tabC n (rowsF n ps n) c) a) b)[a][b] = false from e1, show (tabB c a (tabA n c (tabC n (rowsF n ps n) c) a) b)[a][c] = true from e2]; rfl)
                  | (rw [show (tabB c a (tabA n c (tabC n (rowsF n ps n) c) a) b)[a][b] = false from e1, show (tabB c a (tabA n c (tabC n (rowsF n ps n) c) a) b)[a][c] = false from e2]; rfl)
              · omega
              · omega
        · try simp only [Z.a, Z.b, Z.c, Z.d, Z.e, Z.f, Z.g, Z.h, Z.i, Z.j, Z.k, Z.l, Z.m] at h6
          have hb : b = n := by omega
          refine RO.nil ?_
          refine Runs.condF rfl ?_
          refine Runs.exit ?_
          refine thenQ_exit ?_
          refine thenQ_exit ?_
          refine blockQ_here ?_
          refine blockQ_normal ?_
          refine thenQ_normal ?_
          refine Runs.has [(0, .d (.int _ _)), (4, .nil0), (5, _), (9, .d (.int _ _)), (10, .d (.int _ _))] ⟨rfl, rfl, rfl, rfl, rfl, trivial⟩ ?_
          refine Runs.region ?_
          refine RO.opv (v' := .d (.int _ _)) (opv_move rfl) rfl ?_
          refine RO.opv (v' := .d (.int _ _)) (opv_bin rfl rfl rfl) rfl ?_
          refine RO.opv (v' := .d (.int _ _)) (opv_assign rfl) rfl ?_
          refine RO.nil ?_
          refine thenQ_normal ?_
          refine ⟨a + 1, (3 * n), (by rw [hK]; exact Nat.zero_le _), ⟨rfl, rfl, rfl, trivial⟩, ⟨?_, ?_, trivial⟩, ?_, ?_, ?_⟩
          · exact kill_own (by omega)
          · refine int_eq ?_; rw [wrap64 (by omega) (by omega)]; omega
          · simp only [List.nil_append]
            rw [hb, tabA_succ]; exact List.take_of_length_le (by rw [tobjs_len, (hsA.tabB n).1]; exact Nat.le_refl _)
          · omega
          · omega
      · try simp only [Z.a, Z.b, Z.c, Z.d, Z.e, Z.f, Z.g, Z.h, Z.i, Z.j, Z.k, Z.l, Z.m] at h5
        have ha : a = n := by omega
        refine RO.nil ?_
        refine Runs.condF rfl ?_
        refine Runs.exit ?_
        refine thenQ_exit ?_
        refine thenQ_exit ?_
        refine blockQ_here ?_
        refine blockQ_normal ?_
        refine thenQ_normal ?_
        refine Runs.has [(0, .d (.int _ _)), (4, .nil0), (5, _), (9, .d (.int _ _))] ⟨rfl, rfl, rfl, rfl, trivial⟩ ?_
        refine Runs.region ?_
        refine RO.opv (v' := .d (.int _ _)) (opv_move rfl) rfl ?_
        refine RO.opv (v' := .d (.int _ _)) (opv_bin rfl rfl rfl) rfl ?_
        refine RO.opv (v' := .d (.int _ _)) (opv_assign rfl) rfl ?_
        refine RO.nil ?_
        refine thenQ_normal ?_
        refine ⟨c + 1, (3 * n), (by rw [hK]; exact Nat.zero_le _), ⟨rfl, rfl, trivial⟩, ⟨?_, ?_, trivial⟩, ?_, ?_, ?_⟩
        · exact kill_own (by omega)
        · refine int_eq ?_; rw [wrap64 (by omega) (by omega)]; omega
        · simp only [List.nil_append]
          rw [ha, tabC_succ]; exact List.take_of_length_le (by rw [tobjs_len, (hsC.tabA n).1]; exact Nat.le_refl _)
        · omega
        · omega
    · try simp only [Z.a, Z.b, Z.c, Z.d, Z.e, Z.f, Z.g, Z.h, Z.i, Z.j, Z.k, Z.l, Z.m] at h4
      have hc : c = n := by omega
      refine RO.nil ?_
      refine Runs.condF rfl ?_
      refine Runs.exit ?_
      refine thenQ_exit ?_
      refine thenQ_exit ?_
      refine blockQ_here ?_
      refine thenQ_normal ?_
      refine Runs.has [(4, .nil0), (5, _)] ⟨rfl, rfl, trivial⟩ ?_
      rw [hc]
      have hsF := (Sq.rows n ps).tabC n
      refine Runs.shutV 5 (i := 3 * n - 1) (et := 70) (xs := ownsT n) (ys := rowsD (tabF n ps)) rfl (by have := tobjs_last (e := 4) (et := 70) (M := tabC n (rowsF n ps n) n) (by rw [hsF.1]; omega); rwa [hsF.1] at this) hK (fun j x hx => ?_) (by rw [rowsD_len, ownsT_len]; exact hsF.1) ?_
      · have hj : j < n := by have := (List.getElem?_eq_some_iff.1 hx).1; rwa [ownsT_len] at this
        rw [ownsT_get hj] at hx; cases hx
        have hj2 : j < (tabC n (rowsF n ps n) n).length := by rw [hsF.1]; exact hj
        exact ⟨3 * j, 1, 4, 1, _, rfl, tobjs_row hj2, rows_get hj2⟩
      refine Runs.has [(5, .d (.list (rowsD _)))] ⟨rfl, trivial⟩ ?_
      refine Runs.rseq ?_
      refine RO.opv (v' := .d (.list (rowsD _))) (opv_move rfl) rfl ?_
      refine RO.opv (v' := .d (.list (rowsD _))) (opv_assign rfl) rfl ?_
      refine RO.nil ?_
      refine Runs.ret ?_
      refine EndQ.tmp (.inr rfl) rfl rfl 0 (by exact Nat.le_refl _) (by exact Nat.zero_le _) trivial ⟨?_, rfl⟩
      rfl
theorem tis_fn (M : List (List Bool)) (a : Int) : Fn Try.prog 79 [.d (encR M), .d (.int .i64 a)] [] (.d (.bool (isR M a))) [] := by
  refine Does.run Try.func79 rfl Try.ntmps79 rfl fun K hK => ?_
  refine Runs.rseq ?_
  refine RO.opn (v' := .ref 0 0) (O' := [_]) (opv_box rfl rfl) rfl rfl ?_
  refine RO.opv (v' := .d (.bool false)) (opv_assign rfl) rfl ?_
  refine RO.nil ?_
  refine Runs.has [(1, .d (.int _ _)), (2, .ref 0 0), (4, .d (.bool false))] ⟨rfl, rfl, rfl, trivial⟩ ?_
  refine Runs.rseq ?_
  refine RO.opv (v' := .d (.int _ _)) (opv_move rfl) rfl ?_
  refine RO.opv (v' := .d (.bool _)) (opv_bin rfl rfl rfl) rfl ?_
  refine RO.opc (opv_move rfl) (fun h1 => ?_) (fun h1 => ?_)
  · skip
    have e1 : decide (0 ≤ a) = _ := h1
    refine RO.opgv (v' := .d (.int _ _)) rfl (opv_move rfl) rfl ?_
    refine RO.opgv (v' := .ref 0 0) rfl (opv_field_ref rfl rfl) rfl ?_
    refine RO.opgv (v' := .d (.list (rowsD _))) rfl (opv_load_ref rfl rfl rfl) rfl ?_
    refine RO.opgv (v' := .d (.int _ _)) rfl (opv_len_rows rfl) rfl ?_
    refine RO.opgv (v' := .d (.bool _)) rfl (opv_bin rfl rfl rfl) rfl ?_
    refine RO.opv (v' := .d (.bool _)) (opv_pick rfl rfl) rfl ?_
    refine RO.opv (v' := .d (.bool _)) (opv_assign rfl) rfl ?_
    refine RO.nil ?_
    refine Runs.ret ?_
    refine EndQ.tmp (.inr rfl) rfl rfl 0 (by exact Nat.le_refl _) (by exact Nat.zero_le _) trivial ⟨?_, rfl⟩
    refine bool_eq ?_
    first
      | (simp only [isR, e1, Bool.true_and, Bool.false_and]; done)
      | (simp only [isR, e1, Bool.true_and, Bool.false_and]; rfl)
  · skip
    have e1 : decide (0 ≤ a) = _ := h1
    refine RO.off rfl ?_
    refine RO.off rfl ?_
    refine RO.off rfl ?_
    refine RO.off rfl ?_
    refine RO.off rfl ?_
    refine RO.opv (v' := .d (.bool false)) (opv_pick rfl rfl) rfl ?_
    refine RO.opv (v' := .d (.bool false)) (opv_assign rfl) rfl ?_
    refine RO.nil ?_
    refine Runs.ret ?_
    refine EndQ.tmp (.inr rfl) rfl rfl 0 (by exact Nat.le_refl _) (by exact Nat.zero_le _) trivial ⟨?_, rfl⟩
    refine bool_eq ?_
    first
      | (simp only [isR, e1, Bool.true_and, Bool.false_and]; done)
      | (simp only [isR, e1, Bool.true_and, Bool.false_and]; rfl)
theorem tleq_fn (M : List (List Bool)) (n : Nat) (hs : Sq n M) (hn : n ≤ 16) (a b : Int) : Fn Try.prog 55 [.d (encR M), .d (.int .i64 a), .d (.int .i64 b)] [] (.d (.bool (leqR M a b))) [] := by
  refine Does.run Try.func55 rfl Try.ntmps55 rfl fun K hK => ?_
  refine Runs.rseq ?_
  refine RO.opn (v' := .ref 0 0) (O' := [_]) (opv_box rfl rfl) rfl rfl ?_
  refine RO.opv (v' := .d (.bool false)) (opv_assign rfl) rfl ?_
  refine RO.nil ?_
  refine Runs.has [(1, .d (.int _ _)), (2, .d (.int _ _)), (3, .ref 0 0), (6, .d (.bool false))] ⟨rfl, rfl, rfl, rfl, trivial⟩ ?_
  refine Runs.rseq ?_
  refine RO.opv (v' := .d (encR _)) (opv_load_ref rfl rfl rfl) rfl ?_
  refine RO.opv (v' := .d (.int _ _)) (opv_move rfl) rfl ?_
  refine RO.opv (v' := .d (.bool _)) (opv_callF (tis_fn M _) rfl rfl rfl trivial) rfl ?_
  refine RO.opc (opv_move rfl) (fun h1 => ?_) (fun h1 => ?_)
  · try simp only [Z.a, Z.b, Z.c, Z.d, Z.e, Z.f, Z.g, Z.h, Z.i, Z.j, Z.k, Z.l, Z.m] at h1
    have ha := h1
    obtain ⟨a0, a1⟩ := isR_iff.1 h1
    have a2 : a.toNat < M.length := by omega
    have a3 := hs.row a2
    refine RO.opgv (v' := .d (encR _)) rfl (opv_load_ref rfl rfl rfl) rfl ?_
    refine RO.opgv (v' := .d (.int _ _)) rfl (opv_move rfl) rfl ?_
    refine RO.opgv (v' := .d (.bool _)) rfl (opv_callF (tis_fn M _) rfl rfl rfl trivial) rfl ?_
    refine RO.opv (v' := .d (.bool _)) (opv_pick rfl rfl) rfl ?_
    refine RO.opc (opv_move rfl) (fun h2 => ?_) (fun h2 => ?_)
    · try simp only [Z.a, Z.b, Z.c, Z.d, Z.e, Z.f, Z.g, Z.h, Z.i, Z.j, Z.k, Z.l, Z.m] at h2
      have hb := h2
      obtain ⟨b0, b1⟩ := isR_iff.1 h2
      have hMl := hs.1
      have b2 : b.toNat < M[a.toNat].length := by rw [a3]; omega
      refine RO.opgv (v' := .ref 0 0) rfl (opv_field_ref rfl rfl) rfl ?_
      refine RO.opgv (v' := .d (.list (rowsD _))) rfl (opv_load_ref rfl rfl rfl) rfl ?_
      refine RO.opgv (v' := .d (.int _ _)) rfl (opv_move rfl) rfl ?_
      refine RO.opgv (v' := .d (.ptr _)) rfl (opv_index_rows rfl rfl a0 a2) rfl ?_
      refine RO.opgv (v' := .d (.list (bools _))) rfl (opv_load_ptr rfl rfl) rfl ?_
      refine RO.opgv (v' := .d (.int _ _)) rfl (opv_move rfl) rfl ?_
      refine RO.opgv (v' := .d (.ptr _)) rfl (opv_index_bools rfl rfl b0 b2) rfl ?_
      refine RO.opgv (v' := .d (.bool _)) rfl (opv_load_ptr rfl rfl) rfl ?_
      refine RO.opv (v' := .d (.bool _)) (opv_pick rfl rfl) rfl ?_
      refine RO.opv (v' := .d (.bool _)) (opv_assign rfl) rfl ?_
      refine RO.nil ?_
      refine Runs.ret ?_
      refine EndQ.tmp (.inr rfl) rfl rfl 0 (by exact Nat.le_refl _) (by exact Nat.zero_le _) trivial ⟨?_, rfl⟩
      refine bool_eq ?_; unfold leqR
      first
        | (rw [ha, hb, gt_eq a2 b2]; rfl)
        | (rw [ha, hb]; rfl)
        | (rw [ha]; rfl)
    · try simp only [Z.a, Z.b, Z.c, Z.d, Z.e, Z.f, Z.g, Z.h, Z.i, Z.j, Z.k, Z.l, Z.m] at h2
      have hb := h2
      refine RO.off rfl ?_
      refine RO.off rfl ?_
      refine RO.off rfl ?_
      refine RO.off rfl ?_
      refine RO.off rfl ?_
      refine RO.off rfl ?_
      refine RO.off rfl ?_
      refine RO.off rfl ?_
      refine RO.opv (v' := .d (.bool false)) (opv_pick rfl rfl) rfl ?_
      refine RO.opv (v' := .d (.bool false)) (opv_assign rfl) rfl ?_
      refine RO.nil ?_
      refine Runs.ret ?_
      refine EndQ.tmp (.inr rfl) rfl rfl 0 (by exact Nat.le_refl _) (by exact Nat.zero_le _) trivial ⟨?_, rfl⟩
      refine bool_eq ?_; unfold leqR
      first
        | (rw [ha, hb, gt_eq a2 b2]; rfl)
        | (rw [ha, hb]; rfl)
        | (rw [ha]; rfl)
  · try simp only [Z.a, Z.b, Z.c, Z.d, Z.e, Z.f, Z.g, Z.h, Z.i, Z.j, Z.k, Z.l, Z.m] at h1
    have ha := h1
    refine RO.off rfl ?_
    refine RO.off rfl ?_
    refine RO.off rfl ?_
    refine RO.opv (v' := .d (.bool false)) (opv_pick rfl rfl) rfl ?_
    refine RO.opv (v' := .d (.bool false)) (opv_move rfl) rfl ?_
    refine RO.off rfl ?_
    refine RO.off rfl ?_
    refine RO.off rfl ?_
    refine RO.off rfl ?_
    refine RO.off rfl ?_
    refine RO.off rfl ?_
    refine RO.off rfl ?_
    refine RO.off rfl ?_
    refine RO.opv (v' := .d (.bool false)) (opv_pick rfl rfl) rfl ?_
    refine RO.opv (v' := .d (.bool false)) (opv_assign rfl) rfl ?_
    refine RO.nil ?_
    refine Runs.ret ?_
    refine EndQ.tmp (.inr rfl) rfl rfl 0 (by exact Nat.le_refl _) (by exact Nat.zero_le _) trivial ⟨?_, rfl⟩
    refine bool_eq ?_; unfold leqR
    first
      | (rw [ha, hb, gt_eq a2 b2]; rfl)
      | (rw [ha, hb]; rfl)
      | (rw [ha]; rfl)
theorem tjoin_fn (M : List (List Bool)) (n : Nat) (hs : Sq n M) (hn : n ≤ 16) (a b : Int) : Fn Try.prog 31 [.d (encR M), .d (.int .i64 a), .d (.int .i64 b)] [] (.d (.int .i64 (joinR M a b))) [] := by
  have hl16 : M.length ≤ 16 := by rw [hs.1]; exact hn
  refine Does.run Try.func31 rfl Try.ntmps31 rfl fun K hK => ?_
  refine Runs.rseq ?_
  refine RO.opn (v' := .ref 0 0) (O' := [_]) (opv_box rfl rfl) rfl rfl ?_
  refine RO.opv (v' := .d (.int _ _)) (opv_assign rfl) rfl ?_
  refine RO.nil ?_
  refine Runs.has [(1, .d (.int _ _)), (2, .d (.int _ _)), (3, .ref 0 0), (6, .d (.int _ _))] ⟨rfl, rfl, rfl, rfl, trivial⟩ ?_
  refine Runs.seq ?_
  refine Runs.rseq ?_
  refine RO.opv (v' := .d (.int _ _)) (opv_assign rfl) rfl ?_
  refine RO.nil ?_
  refine Runs.block ?_
  refine Runs.loopC (X := Nat) (fun c => c ≤ M.length ∧ ∀ j, j < c → lstR M a b (j : Nat) M.length = false) (fun c => M.length - c) [(1, .d (.int _ _)), (2, .d (.int _ _)), (3, .ref 0 0)] (fun c => [(7, .d (.int .i64 (c : Nat)))]) [_] (fun c => []) (0) ⟨rfl, rfl, rfl, trivial⟩ ⟨rfl, trivial⟩ rfl ⟨Nat.zero_le _, fun j h => absurd h (Nat.not_lt_zero _)⟩ fun c hc0 => ?_
  refine Runs.seq ?_
  refine Runs.rseq ?_
  refine RO.opv (v' := .d (.int _ _)) (opv_move rfl) rfl ?_
  refine RO.opv (v' := .ref 0 0) (opv_field_ref rfl rfl) rfl ?_
  refine RO.opv (v' := .d (.list (rowsD _))) (opv_load_ref rfl rfl rfl) rfl ?_
  refine RO.opv (v' := .d (.int _ _)) (opv_len_rows rfl) rfl ?_
  refine RO.opc (opv_bin rfl rfl rfl) (fun h1 => ?_) (fun h1 => ?_)
  · try simp only [Z.a, Z.b, Z.c, Z.d, Z.e, Z.f, Z.g, Z.h, Z.i, Z.j, Z.k, Z.l, Z.m] at h1
    have hc : c < M.length := by omega
    refine RO.nil ?_
    refine Runs.condT rfl ?_
    refine Runs.skip ?_
    refine thenQ_normal ?_
    refine Runs.has [(1, .d (.int _ _)), (2, .d (.int _ _)), (3, .ref 0 0), (7, .d (.int _ _))] ⟨rfl, rfl, rfl, rfl, trivial⟩ ?_
    refine Runs.seq ?_
    refine Runs.block ?_
    refine Runs.rseq ?_
    refine RO.opv (v' := .d (encR _)) (opv_load_ref rfl rfl rfl) rfl ?_
    refine RO.opv (v' := .d (.int _ _)) (opv_move rfl) rfl ?_
    refine RO.opv (v' := .d (.int _ _)) (opv_move rfl) rfl ?_
    refine RO.opv (v' := .d (.bool _)) (opv_callF (tleq_fn M n hs hn _ _) rfl rfl rfl trivial) rfl ?_
    refine RO.opc (opv_move rfl) (fun h2 => ?_) (fun h2 => ?_)
    · try simp only [Z.a, Z.b, Z.c, Z.d, Z.e, Z.f, Z.g, Z.h, Z.i, Z.j, Z.k, Z.l, Z.m] at h2
      have q1 := h2
      refine RO.opgv (v' := .d (encR _)) rfl (opv_load_ref rfl rfl rfl) rfl ?_
      refine RO.opgv (v' := .d (.int _ _)) rfl (opv_move rfl) rfl ?_
      refine RO.opgv (v' := .d (.int _ _)) rfl (opv_move rfl) rfl ?_
      refine RO.opgv (v' := .d (.bool _)) rfl (opv_callF (tleq_fn M n hs hn _ _) rfl rfl rfl trivial) rfl ?_
      refine RO.opv (v' := .d (.bool _)) (opv_pick rfl rfl) rfl ?_
      refine RO.opv (v' := .d (.bool _)) (opv_assign rfl) rfl ?_
      refine RO.nil ?_
      refine Runs.has [(1, .d (.int _ _)), (2, .d (.int _ _)), (3, .ref 0 0), (7, .d (.int _ _)), (8, .d (.bool _))] ⟨rfl, rfl, rfl, rfl, rfl, trivial⟩ ?_
      refine Runs.seq ?_
      refine Runs.rseq ?_
      refine RO.opv (v' := .d (.int _ _)) (opv_assign rfl) rfl ?_
      refine RO.nil ?_
      refine Runs.block ?_
      refine Runs.loopC (X := Nat) (fun d => d ≤ M.length) (fun d => M.length - d) [(1, .d (.int _ _)), (2, .d (.int _ _)), (3, .ref 0 0), (7, .d (.int _ _))] (fun d => [(8, .d (.bool (lstR M a b (c : Nat) d))), (9, .d (.int .i64 (d : Nat)))]) [_] (fun d => []) (0) ⟨rfl, rfl, rfl, rfl, trivial⟩ ⟨(show AV.d (.bool _) = _ from bool_eq (by unfold lstR; first | (rw [q1, Bool.true_and]; simp; done) | (rw [q1]; simp; done))), rfl, trivial⟩ rfl (by omega) fun d hd0 => ?_
      refine Runs.seq ?_
      refine Runs.rseq ?_
      refine RO.opv (v' := .d (.int _ _)) (opv_move rfl) rfl ?_
      refine RO.opv (v' := .ref 0 0) (opv_field_ref rfl rfl) rfl ?_
      refine RO.opv (v' := .d (.list (rowsD _))) (opv_load_ref rfl rfl rfl) rfl ?_
      refine RO.opv (v' := .d (.int _ _)) (opv_len_rows rfl) rfl ?_
      refine RO.opc (opv_bin rfl rfl rfl) (fun h3 => ?_) (fun h3 => ?_)
      · try simp only [Z.a, Z.b, Z.c, Z.d, Z.e, Z.f, Z.g, Z.h, Z.i, Z.j, Z.k, Z.l, Z.m] at h3
        have hd : d < M.length := by omega
        refine RO.nil ?_
        refine Runs.condT rfl ?_
        refine Runs.skip ?_
        refine thenQ_normal ?_
        refine Runs.has [(1, .d (.int _ _)), (2, .d (.int _ _)), (3, .ref 0 0), (7, .d (.int _ _)), (8, .d (.bool _)), (9, .d (.int _ _))] ⟨rfl, rfl, rfl, rfl, rfl, rfl, trivial⟩ ?_
        refine Runs.seq ?_
        refine Runs.block ?_
        refine Runs.rseq ?_
        refine RO.opv (v' := .d (encR _)) (opv_load_ref rfl rfl rfl) rfl ?_
        refine RO.opv (v' := .d (.int _ _)) (opv_move rfl) rfl ?_
        refine RO.opv (v' := .d (.int _ _)) (opv_move rfl) rfl ?_
        refine RO.opv (v' := .d (.bool _)) (opv_callF (tleq_fn M n hs hn _ _) rfl rfl rfl trivial) rfl ?_
        refine RO.opc (opv_move rfl) (fun h4 => ?_) (fun h4 => ?_)
        · try simp only [Z.a, Z.b, Z.c, Z.d, Z.e, Z.f, Z.g, Z.h, Z.i, Z.j, Z.k, Z.l, Z.m] at h4
          have r1 := h4
          refine RO.opgv (v' := .d (encR _)) rfl (opv_load_ref rfl rfl rfl) rfl ?_
          refine RO.opgv (v' := .d (.int _ _)) rfl (opv_move rfl) rfl ?_
          refine RO.opgv (v' := .d (.int _ _)) rfl (opv_move rfl) rfl ?_
          refine RO.opgv (v' := .d (.bool _)) rfl (opv_callF (tleq_fn M n hs hn _ _) rfl rfl rfl trivial) rfl ?_
          refine RO.opv (v' := .d (.bool _)) (opv_pick rfl rfl) rfl ?_
          refine RO.opc (opv_move rfl) (fun h5 => ?_) (fun h5 => ?_)
          · try simp only [Z.a, Z.b, Z.c, Z.d, Z.e, Z.f, Z.g, Z.h, Z.i, Z.j, Z.k, Z.l, Z.m] at h5
            have r2 := h5
            refine RO.opgv (v' := .d (encR _)) rfl (opv_load_ref rfl rfl rfl) rfl ?_
            refine RO.opgv (v' := .d (.int _ _)) rfl (opv_move rfl) rfl ?_
            refine RO.opgv (v' := .d (.int _ _)) rfl (opv_move rfl) rfl ?_
            refine RO.opgv (v' := .d (.bool _)) rfl (opv_callF (tleq_fn M n hs hn _ _) rfl rfl rfl trivial) rfl ?_
            refine RO.opgv (v' := .d (.bool _)) rfl (opv_not rfl rfl) rfl ?_
            refine RO.opc (opv_pick rfl rfl) (fun h6 => ?_) (fun h6 => ?_)
            · try simp only [Z.a, Z.b, Z.c, Z.d, Z.e, Z.f, Z.g, Z.h, Z.i, Z.j, Z.k, Z.l, Z.m] at h6
              have r3 := h6
              refine RO.nil ?_
              refine Runs.condT rfl ?_
              refine Runs.has [(1, .d (.int _ _)), (2, .d (.int _ _)), (3, .ref 0 0), (7, .d (.int _ _)), (8, .d (.bool _)), (9, .d (.int _ _))] ⟨rfl, rfl, rfl, rfl, rfl, rfl, trivial⟩ ?_
              refine Runs.region ?_
              refine RO.opv (v' := .d (.bool false)) (opv_assign rfl) rfl ?_
              refine RO.nil ?_
              refine blockQ_normal ?_
              refine thenQ_normal ?_
              refine Runs.region ?_
              refine RO.opv (v' := .d (.int _ _)) (opv_move rfl) rfl ?_
              refine RO.opv (v' := .d (.int _ _)) (opv_bin rfl rfl rfl) rfl ?_
              refine RO.opv (v' := .d (.int _ _)) (opv_assign rfl) rfl ?_
              refine RO.nil ?_
              refine thenQ_normal ?_
              refine ⟨d + 1, 1, (by rw [hK]; exact Nat.le_of_ble_eq_true rfl), ⟨rfl, rfl, rfl, rfl, trivial⟩, ⟨?_, ?_, trivial⟩, rfl, ?_, ?_⟩
              · refine bool_eq ?_; rw [lstR_succ]; first | (rw [r1, r2, show leqR M (c : Nat) (d : Nat) = true from by simpa using r3]; simp; done) | (rw [r1, r2, show leqR M (c : Nat) (d : Nat) = false from by simpa using r3]; simp; done) | (rw [r1, r2]; simp; done) | (rw [r1]; simp; done) | (simp [r1, r2, r3]; done) | (simp [r1, r2]; done)
              · refine int_eq ?_; rw [wrap64 (by omega) (by omega)]; omega
              · omega
              · omega
            · try simp only [Z.a, Z.b, Z.c, Z.d, Z.e, Z.f, Z.g, Z.h, Z.i, Z.j, Z.k, Z.l, Z.m] at h6
              have r3 := h6
              refine RO.nil ?_
              refine Runs.condF rfl ?_
              refine Runs.skip ?_
              refine blockQ_normal ?_
              refine thenQ_normal ?_
              refine Runs.has [(1, .d (.int _ _)), (2, .d (.int _ _)), (3, .ref 0 0), (7, .d (.int _ _)), (8, .d (.bool _)), (9, .d (.int _ _))] ⟨rfl, rfl, rfl, rfl, rfl, rfl, trivial⟩ ?_
              refine Runs.region ?_
              refine RO.opv (v' := .d (.int _ _)) (opv_move rfl) rfl ?_
              refine RO.opv (v' := .d (.int _ _)) (opv_bin rfl rfl rfl) rfl ?_
              refine RO.opv (v' := .d (.int _ _)) (opv_assign rfl) rfl ?_
              refine RO.nil ?_
              refine thenQ_normal ?_
              refine ⟨d + 1, 1, (by rw [hK]; exact Nat.le_of_ble_eq_true rfl), ⟨rfl, rfl, rfl, rfl, trivial⟩, ⟨?_, ?_, trivial⟩, rfl, ?_, ?_⟩
              · refine bool_eq ?_; rw [lstR_succ]; first | (rw [r1, r2, show leqR M (c : Nat) (d : Nat) = true from by simpa using r3]; simp; done) | (rw [r1, r2, show leqR M (c : Nat) (d : Nat) = false from by simpa using r3]; simp; done) | (rw [r1, r2]; simp; done) | (rw [r1]; simp; done) | (simp [r1, r2, r3]; done) | (simp [r1, r2]; done)
              · refine int_eq ?_; rw [wrap64 (by omega) (by omega)]; omega
              · omega
              · omega
          · try simp only [Z.a, Z.b, Z.c, Z.d, Z.e, Z.f, Z.g, Z.h, Z.i, Z.j, Z.k, Z.l, Z.m] at h5
            have r2 := h5
            refine RO.off rfl ?_
            refine RO.off rfl ?_
            refine RO.off rfl ?_
            refine RO.off rfl ?_
            refine RO.off rfl ?_
            refine RO.opv (v' := .d (.bool false)) (opv_pick rfl rfl) rfl ?_
            refine RO.nil ?_
            refine Runs.condF rfl ?_
            refine Runs.skip ?_
            refine blockQ_normal ?_
            refine thenQ_normal ?_
            refine Runs.has [(1, .d (.int _ _)), (2, .d (.int _ _)), (3, .ref 0 0), (7, .d (.int _ _)), (8, .d (.bool _)), (9, .d (.int _ _))] ⟨rfl, rfl, rfl, rfl, rfl, rfl, trivial⟩ ?_
            refine Runs.region ?_
            refine RO.opv (v' := .d (.int _ _)) (opv_move rfl) rfl ?_
            refine RO.opv (v' := .d (.int _ _)) (opv_bin rfl rfl rfl) rfl ?_
            refine RO.opv (v' := .d (.int _ _)) (opv_assign rfl) rfl ?_
            refine RO.nil ?_
            refine thenQ_normal ?_
            refine ⟨d + 1, 1, (by rw [hK]; exact Nat.le_of_ble_eq_true rfl), ⟨rfl, rfl, rfl, rfl, trivial⟩, ⟨?_, ?_, trivial⟩, rfl, ?_, ?_⟩
            · refine bool_eq ?_; rw [lstR_succ]; first | (rw [r1, r2, show leqR M (c : Nat) (d : Nat) = true from by simpa using r3]; simp; done) | (rw [r1, r2, show leqR M (c : Nat) (d : Nat) = false from by simpa using r3]; simp; done) | (rw [r1, r2]; simp; done) | (rw [r1]; simp; done) | (simp [r1, r2, r3]; done) | (simp [r1, r2]; done)
            · refine int_eq ?_; rw [wrap64 (by omega) (by omega)]; omega
            · omega
            · omega
        · try simp only [Z.a, Z.b, Z.c, Z.d, Z.e, Z.f, Z.g, Z.h, Z.i, Z.j, Z.k, Z.l, Z.m] at h4
          have r1 := h4
          refine RO.off rfl ?_
          refine RO.off rfl ?_
          refine RO.off rfl ?_
          refine RO.off rfl ?_
          refine RO.opv (v' := .d (.bool false)) (opv_pick rfl rfl) rfl ?_
          refine RO.opv (v' := .d (.bool false)) (opv_move rfl) rfl ?_
          refine RO.off rfl ?_
          refine RO.off rfl ?_
          refine RO.off rfl ?_
          refine RO.off rfl ?_
          refine RO.off rfl ?_
          refine RO.opv (v' := .d (.bool false)) (opv_pick rfl rfl) rfl ?_
          refine RO.nil ?_
          refine Runs.condF rfl ?_
          refine Runs.skip ?_
          refine blockQ_normal ?_
          refine thenQ_normal ?_
          refine Runs.has [(1, .d (.int _ _)), (2, .d (.int _ _)), (3, .ref 0 0), (7, .d (.int _ _)), (8, .d (.bool _)), (9, .d (.int _ _))] ⟨rfl, rfl, rfl, rfl, rfl, rfl, trivial⟩ ?_
          refine Runs.region ?_
          refine RO.opv (v' := .d (.int _ _)) (opv_move rfl) rfl ?_
          refine RO.opv (v' := .d (.int _ _)) (opv_bin rfl rfl rfl) rfl ?_
          refine RO.opv (v' := .d (.int _ _)) (opv_assign rfl) rfl ?_
          refine RO.nil ?_
          refine thenQ_normal ?_
          refine ⟨d + 1, 1, (by rw [hK]; exact Nat.le_of_ble_eq_true rfl), ⟨rfl, rfl, rfl, rfl, trivial⟩, ⟨?_, ?_, trivial⟩, rfl, ?_, ?_⟩
          · refine bool_eq ?_; rw [lstR_succ]; first | (rw [r1, r2, show leqR M (c : Nat) (d : Nat) = true from by simpa using r3]; simp; done) | (rw [r1, r2, show leqR M (c : Nat) (d : Nat) = false from by simpa using r3]; simp; done) | (rw [r1, r2]; simp; done) | (rw [r1]; simp; done) | (simp [r1, r2, r3]; done) | (simp [r1, r2]; done)
          · refine int_eq ?_; rw [wrap64 (by omega) (by omega)]; omega
          · omega
          · omega
      · try simp only [Z.a, Z.b, Z.c, Z.d, Z.e, Z.f, Z.g, Z.h, Z.i, Z.j, Z.k, Z.l, Z.m] at h3
        have hd : d = M.length := by omega
        refine RO.nil ?_
        refine Runs.condF rfl ?_
        refine Runs.exit ?_
        refine thenQ_exit ?_
        refine thenQ_exit ?_
        refine blockQ_here ?_
        refine thenQ_normal ?_
        refine Runs.has [(1, .d (.int _ _)), (2, .d (.int _ _)), (3, .ref 0 0), (7, .d (.int _ _)), (8, .d (.bool _))] ⟨rfl, rfl, rfl, rfl, rfl, trivial⟩ ?_
        refine Runs.rseq ?_
        refine RO.opc (opv_move rfl) (fun h7 => ?_) (fun h7 => ?_)
        · try simp only [Z.a, Z.b, Z.c, Z.d, Z.e, Z.f, Z.g, Z.h, Z.i, Z.j, Z.k, Z.l, Z.m] at h7
          have hf := h7
          refine RO.nil ?_
          refine Runs.condT rfl ?_
          refine Runs.has [(1, .d (.int _ _)), (2, .d (.int _ _)), (3, .ref 0 0), (7, .d (.int _ _))] ⟨rfl, rfl, rfl, rfl, trivial⟩ ?_
          refine Runs.rseq ?_
          refine RO.opv (v' := .d (.int _ _)) (opv_move rfl) rfl ?_
          refine RO.opv (v' := .d (.int _ _)) (opv_assign rfl) rfl ?_
          refine RO.nil ?_
          refine Runs.ret ?_
          refine blockQ_ret ?_
          refine thenQ_ret ?_
          refine thenQ_ret ?_
          refine blockQ_ret ?_
          refine thenQ_ret ?_
          refine EndQ.tmp (.inr rfl) rfl rfl 0 (by exact Nat.le_refl _) (by exact Nat.zero_le _) trivial ⟨?_, rfl⟩
          first
            | (refine int_eq ?_; exact (foundI_yes hc (by rw [← hd]; exact hf) hc0.2).symm)
            | (refine int_eq ?_; refine (foundI_no fun j hj => hc0.2 j (by omega)).symm)
        · try simp only [Z.a, Z.b, Z.c, Z.d, Z.e, Z.f, Z.g, Z.h, Z.i, Z.j, Z.k, Z.l, Z.m] at h7
          have hf := h7
          refine RO.nil ?_
          refine Runs.condF rfl ?_
          refine Runs.skip ?_
          refine blockQ_normal ?_
          refine thenQ_normal ?_
          refine Runs.has [(1, .d (.int _ _)), (2, .d (.int _ _)), (3, .ref 0 0), (7, .d (.int _ _))] ⟨rfl, rfl, rfl, rfl, trivial⟩ ?_
          refine Runs.region ?_
          refine RO.opv (v' := .d (.int _ _)) (opv_move rfl) rfl ?_
          refine RO.opv (v' := .d (.int _ _)) (opv_bin rfl rfl rfl) rfl ?_
          refine RO.opv (v' := .d (.int _ _)) (opv_assign rfl) rfl ?_
          refine RO.nil ?_
          refine thenQ_normal ?_
          refine ⟨c + 1, 1, (by rw [hK]; exact Nat.le_of_ble_eq_true rfl), ⟨rfl, rfl, rfl, trivial⟩, ⟨?_, trivial⟩, rfl, ?_, ?_⟩
          · refine int_eq ?_; rw [wrap64 (by omega) (by omega)]; omega
          · refine ⟨by omega, fun j h => ?_⟩
            rcases Nat.lt_succ_iff_lt_or_eq.1 h with h' | h'
            · exact hc0.2 j h'
            · subst h'; rw [← hd]; exact hf
          · omega
    · try simp only [Z.a, Z.b, Z.c, Z.d, Z.e, Z.f, Z.g, Z.h, Z.i, Z.j, Z.k, Z.l, Z.m] at h2
      have q1 := h2
      refine RO.off rfl ?_
      refine RO.off rfl ?_
      refine RO.off rfl ?_
      refine RO.off rfl ?_
      refine RO.opv (v' := .d (.bool false)) (opv_pick rfl rfl) rfl ?_
      refine RO.opv (v' := .d (.bool false)) (opv_assign rfl) rfl ?_
      refine RO.nil ?_
      refine Runs.has [(1, .d (.int _ _)), (2, .d (.int _ _)), (3, .ref 0 0), (7, .d (.int _ _)), (8, .d (.bool false))] ⟨rfl, rfl, rfl, rfl, rfl, trivial⟩ ?_
      refine Runs.seq ?_
      refine Runs.rseq ?_
      refine RO.opv (v' := .d (.int _ _)) (opv_assign rfl) rfl ?_
      refine RO.nil ?_
      refine Runs.block ?_
      refine Runs.loopC (X := Nat) (fun d => d ≤ M.length) (fun d => M.length - d) [(1, .d (.int _ _)), (2, .d (.int _ _)), (3, .ref 0 0), (7, .d (.int _ _))] (fun d => [(8, .d (.bool (lstR M a b (c : Nat) d))), (9, .d (.int .i64 (d : Nat)))]) [_] (fun d => []) (0) ⟨rfl, rfl, rfl, rfl, trivial⟩ ⟨(show AV.d (.bool _) = _ from bool_eq (by unfold lstR; first | (rw [q1, Bool.true_and]; simp; done) | (rw [q1]; simp; done))), rfl, trivial⟩ rfl (by omega) fun d hd0 => ?_
      refine Runs.seq ?_
      refine Runs.rseq ?_
      refine RO.opv (v' := .d (.int _ _)) (opv_move rfl) rfl ?_
      refine RO.opv (v' := .ref 0 0) (opv_field_ref rfl rfl) rfl ?_
      refine RO.opv (v' := .d (.list (rowsD _))) (opv_load_ref rfl rfl rfl) rfl ?_
      refine RO.opv (v' := .d (.int _ _)) (opv_len_rows rfl) rfl ?_
      refine RO.opc (opv_bin rfl rfl rfl) (fun h8 => ?_) (fun h8 => ?_)
      · try simp only [Z.a, Z.b, Z.c, Z.d, Z.e, Z.f, Z.g, Z.h, Z.i, Z.j, Z.k, Z.l, Z.m] at h8
        have hd : d < M.length := by omega
        refine RO.nil ?_
        refine Runs.condT rfl ?_
        refine Runs.skip ?_
        refine thenQ_normal ?_
        refine Runs.has [(1, .d (.int _ _)), (2, .d (.int _ _)), (3, .ref 0 0), (7, .d (.int _ _)), (8, .d (.bool _)), (9, .d (.int _ _))] ⟨rfl, rfl, rfl, rfl, rfl, rfl, trivial⟩ ?_
        refine Runs.seq ?_
        refine Runs.block ?_
        refine Runs.rseq ?_
        refine RO.opv (v' := .d (encR _)) (opv_load_ref rfl rfl rfl) rfl ?_
        refine RO.opv (v' := .d (.int _ _)) (opv_move rfl) rfl ?_
        refine RO.opv (v' := .d (.int _ _)) (opv_move rfl) rfl ?_
        refine RO.opv (v' := .d (.bool _)) (opv_callF (tleq_fn M n hs hn _ _) rfl rfl rfl trivial) rfl ?_
        refine RO.opc (opv_move rfl) (fun h9 => ?_) (fun h9 => ?_)
        · try simp only [Z.a, Z.b, Z.c, Z.d, Z.e, Z.f, Z.g, Z.h, Z.i, Z.j, Z.k, Z.l, Z.m] at h9
          have r1 := h9
          refine RO.opgv (v' := .d (encR _)) rfl (opv_load_ref rfl rfl rfl) rfl ?_
          refine RO.opgv (v' := .d (.int _ _)) rfl (opv_move rfl) rfl ?_
          refine RO.opgv (v' := .d (.int _ _)) rfl (opv_move rfl) rfl ?_
          refine RO.opgv (v' := .d (.bool _)) rfl (opv_callF (tleq_fn M n hs hn _ _) rfl rfl rfl trivial) rfl ?_
          refine RO.opv (v' := .d (.bool _)) (opv_pick rfl rfl) rfl ?_
          refine RO.opc (opv_move rfl) (fun h10 => ?_) (fun h10 => ?_)
          · try simp only [Z.a, Z.b, Z.c, Z.d, Z.e, Z.f, Z.g, Z.h, Z.i, Z.j, Z.k, Z.l, Z.m] at h10
            have r2 := h10
            refine RO.opgv (v' := .d (encR _)) rfl (opv_load_ref rfl rfl rfl) rfl ?_
            refine RO.opgv (v' := .d (.int _ _)) rfl (opv_move rfl) rfl ?_
            refine RO.opgv (v' := .d (.int _ _)) rfl (opv_move rfl) rfl ?_
            refine RO.opgv (v' := .d (.bool _)) rfl (opv_callF (tleq_fn M n hs hn _ _) rfl rfl rfl trivial) rfl ?_
            refine RO.opgv (v' := .d (.bool _)) rfl (opv_not rfl rfl) rfl ?_
            refine RO.opc (opv_pick rfl rfl) (fun h11 => ?_) (fun h11 => ?_)
            · try simp only [Z.a, Z.b, Z.c, Z.d, Z.e, Z.f, Z.g, Z.h, Z.i, Z.j, Z.k, Z.l, Z.m] at h11
              have r3 := h11
              refine RO.nil ?_
              refine Runs.condT rfl ?_
              refine Runs.has [(1, .d (.int _ _)), (2, .d (.int _ _)), (3, .ref 0 0), (7, .d (.int _ _)), (8, .d (.bool _)), (9, .d (.int _ _))] ⟨rfl, rfl, rfl, rfl, rfl, rfl, trivial⟩ ?_
              refine Runs.region ?_
              refine RO.opv (v' := .d (.bool false)) (opv_assign rfl) rfl ?_
              refine RO.nil ?_
              refine blockQ_normal ?_
              refine thenQ_normal ?_
              refine Runs.region ?_
              refine RO.opv (v' := .d (.int _ _)) (opv_move rfl) rfl ?_
              refine RO.opv (v' := .d (.int _ _)) (opv_bin rfl rfl rfl) rfl ?_
              refine RO.opv (v' := .d (.int _ _)) (opv_assign rfl) rfl ?_
              refine RO.nil ?_
              refine thenQ_normal ?_
              refine ⟨d + 1, 1, (by rw [hK]; exact Nat.le_of_ble_eq_true rfl), ⟨rfl, rfl, rfl, rfl, trivial⟩, ⟨?_, ?_, trivial⟩, rfl, ?_, ?_⟩
              · refine bool_eq ?_; rw [lstR_succ]; first | (rw [r1, r2, show leqR M (c : Nat) (d : Nat) = true from by simpa using r3]; simp; done) | (rw [r1, r2, show leqR M (c : Nat) (d : Nat) = false from by simpa using r3]; simp; done) | (rw [r1, r2]; simp; done) | (rw [r1]; simp; done) | (simp [r1, r2, r3]; done) | (simp [r1, r2]; done)
              · refine int_eq ?_; rw [wrap64 (by omega) (by omega)]; omega
              · omega
              · omega
            · try simp only [Z.a, Z.b, Z.c, Z.d, Z.e, Z.f, Z.g, Z.h, Z.i, Z.j, Z.k, Z.l, Z.m] at h11
              have r3 := h11
              refine RO.nil ?_
              refine Runs.condF rfl ?_
              refine Runs.skip ?_
              refine blockQ_normal ?_
              refine thenQ_normal ?_
              refine Runs.has [(1, .d (.int _ _)), (2, .d (.int _ _)), (3, .ref 0 0), (7, .d (.int _ _)), (8, .d (.bool _)), (9, .d (.int _ _))] ⟨rfl, rfl, rfl, rfl, rfl, rfl, trivial⟩ ?_
              refine Runs.region ?_
              refine RO.opv (v' := .d (.int _ _)) (opv_move rfl) rfl ?_
              refine RO.opv (v' := .d (.int _ _)) (opv_bin rfl rfl rfl) rfl ?_
              refine RO.opv (v' := .d (.int _ _)) (opv_assign rfl) rfl ?_
              refine RO.nil ?_
              refine thenQ_normal ?_
              refine ⟨d + 1, 1, (by rw [hK]; exact Nat.le_of_ble_eq_true rfl), ⟨rfl, rfl, rfl, rfl, trivial⟩, ⟨?_, ?_, trivial⟩, rfl, ?_, ?_⟩
              · refine bool_eq ?_; rw [lstR_succ]; first | (rw [r1, r2, show leqR M (c : Nat) (d : Nat) = true from by simpa using r3]; simp; done) | (rw [r1, r2, show leqR M (c : Nat) (d : Nat) = false from by simpa using r3]; simp; done) | (rw [r1, r2]; simp; done) | (rw [r1]; simp; done) | (simp [r1, r2, r3]; done) | (simp [r1, r2]; done)
              · refine int_eq ?_; rw [wrap64 (by omega) (by omega)]; omega
              · omega
              · omega
          · try simp only [Z.a, Z.b, Z.c, Z.d, Z.e, Z.f, Z.g, Z.h, Z.i, Z.j, Z.k, Z.l, Z.m] at h10
            have r2 := h10
            refine RO.off rfl ?_
            refine RO.off rfl ?_
            refine RO.off rfl ?_
            refine RO.off rfl ?_
            refine RO.off rfl ?_
            refine RO.opv (v' := .d (.bool false)) (opv_pick rfl rfl) rfl ?_
            refine RO.nil ?_
            refine Runs.condF rfl ?_
            refine Runs.skip ?_
            refine blockQ_normal ?_
            refine thenQ_normal ?_
            refine Runs.has [(1, .d (.int _ _)), (2, .d (.int _ _)), (3, .ref 0 0), (7, .d (.int _ _)), (8, .d (.bool _)), (9, .d (.int _ _))] ⟨rfl, rfl, rfl, rfl, rfl, rfl, trivial⟩ ?_
            refine Runs.region ?_
            refine RO.opv (v' := .d (.int _ _)) (opv_move rfl) rfl ?_
            refine RO.opv (v' := .d (.int _ _)) (opv_bin rfl rfl rfl) rfl ?_
            refine RO.opv (v' := .d (.int _ _)) (opv_assign rfl) rfl ?_
            refine RO.nil ?_
            refine thenQ_normal ?_
            refine ⟨d + 1, 1, (by rw [hK]; exact Nat.le_of_ble_eq_true rfl), ⟨rfl, rfl, rfl, rfl, trivial⟩, ⟨?_, ?_, trivial⟩, rfl, ?_, ?_⟩
            · refine bool_eq ?_; rw [lstR_succ]; first | (rw [r1, r2, show leqR M (c : Nat) (d : Nat) = true from by simpa using r3]; simp; done) | (rw [r1, r2, show leqR M (c : Nat) (d : Nat) = false from by simpa using r3]; simp; done) | (rw [r1, r2]; simp; done) | (rw [r1]; simp; done) | (simp [r1, r2, r3]; done) | (simp [r1, r2]; done)
            · refine int_eq ?_; rw [wrap64 (by omega) (by omega)]; omega
            · omega
            · omega
        · try simp only [Z.a, Z.b, Z.c, Z.d, Z.e, Z.f, Z.g, Z.h, Z.i, Z.j, Z.k, Z.l, Z.m] at h9
          have r1 := h9
          refine RO.off rfl ?_
          refine RO.off rfl ?_
          refine RO.off rfl ?_
          refine RO.off rfl ?_
          refine RO.opv (v' := .d (.bool false)) (opv_pick rfl rfl) rfl ?_
          refine RO.opv (v' := .d (.bool false)) (opv_move rfl) rfl ?_
          refine RO.off rfl ?_
          refine RO.off rfl ?_
          refine RO.off rfl ?_
          refine RO.off rfl ?_
          refine RO.off rfl ?_
          refine RO.opv (v' := .d (.bool false)) (opv_pick rfl rfl) rfl ?_
          refine RO.nil ?_
          refine Runs.condF rfl ?_
          refine Runs.skip ?_
          refine blockQ_normal ?_
          refine thenQ_normal ?_
          refine Runs.has [(1, .d (.int _ _)), (2, .d (.int _ _)), (3, .ref 0 0), (7, .d (.int _ _)), (8, .d (.bool _)), (9, .d (.int _ _))] ⟨rfl, rfl, rfl, rfl, rfl, rfl, trivial⟩ ?_
          refine Runs.region ?_
          refine RO.opv (v' := .d (.int _ _)) (opv_move rfl) rfl ?_
          refine RO.opv (v' := .d (.int _ _)) (opv_bin rfl rfl rfl) rfl ?_
          refine RO.opv (v' := .d (.int _ _)) (opv_assign rfl) rfl ?_
          refine RO.nil ?_
          refine thenQ_normal ?_
          refine ⟨d + 1, 1, (by rw [hK]; exact Nat.le_of_ble_eq_true rfl), ⟨rfl, rfl, rfl, rfl, trivial⟩, ⟨?_, ?_, trivial⟩, rfl, ?_, ?_⟩
          · refine bool_eq ?_; rw [lstR_succ]; first | (rw [r1, r2, show leqR M (c : Nat) (d : Nat) = true from by simpa using r3]; simp; done) | (rw [r1, r2, show leqR M (c : Nat) (d : Nat) = false from by simpa using r3]; simp; done) | (rw [r1, r2]; simp; done) | (rw [r1]; simp; done) | (simp [r1, r2, r3]; done) | (simp [r1, r2]; done)
          · refine int_eq ?_; rw [wrap64 (by omega) (by omega)]; omega
          · omega
          · omega
      · try simp only [Z.a, Z.b, Z.c, Z.d, Z.e, Z.f, Z.g, Z.h, Z.i, Z.j, Z.k, Z.l, Z.m] at h8
        have hd : d = M.length := by omega
        refine RO.nil ?_
        refine Runs.condF rfl ?_
        refine Runs.exit ?_
        refine thenQ_exit ?_
        refine thenQ_exit ?_
        refine blockQ_here ?_
        refine thenQ_normal ?_
        refine Runs.has [(1, .d (.int _ _)), (2, .d (.int _ _)), (3, .ref 0 0), (7, .d (.int _ _)), (8, .d (.bool _))] ⟨rfl, rfl, rfl, rfl, rfl, trivial⟩ ?_
        refine Runs.rseq ?_
        refine RO.opc (opv_move rfl) (fun h12 => ?_) (fun h12 => ?_)
        · try simp only [Z.a, Z.b, Z.c, Z.d, Z.e, Z.f, Z.g, Z.h, Z.i, Z.j, Z.k, Z.l, Z.m] at h12
          have hf := h12
          refine RO.nil ?_
          refine Runs.condT rfl ?_
          refine Runs.has [(1, .d (.int _ _)), (2, .d (.int _ _)), (3, .ref 0 0), (7, .d (.int _ _))] ⟨rfl, rfl, rfl, rfl, trivial⟩ ?_
          refine Runs.rseq ?_
          refine RO.opv (v' := .d (.int _ _)) (opv_move rfl) rfl ?_
          refine RO.opv (v' := .d (.int _ _)) (opv_assign rfl) rfl ?_
          refine RO.nil ?_
          refine Runs.ret ?_
          refine blockQ_ret ?_
          refine thenQ_ret ?_
          refine thenQ_ret ?_
          refine blockQ_ret ?_
          refine thenQ_ret ?_
          refine EndQ.tmp (.inr rfl) rfl rfl 0 (by exact Nat.le_refl _) (by exact Nat.zero_le _) trivial ⟨?_, rfl⟩
          first
            | (refine int_eq ?_; exact (foundI_yes hc (by rw [← hd]; exact hf) hc0.2).symm)
            | (refine int_eq ?_; refine (foundI_no fun j hj => hc0.2 j (by omega)).symm)
        · try simp only [Z.a, Z.b, Z.c, Z.d, Z.e, Z.f, Z.g, Z.h, Z.i, Z.j, Z.k, Z.l, Z.m] at h12
          have hf := h12
          refine RO.nil ?_
          refine Runs.condF rfl ?_
          refine Runs.skip ?_
          refine blockQ_normal ?_
          refine thenQ_normal ?_
          refine Runs.has [(1, .d (.int _ _)), (2, .d (.int _ _)), (3, .ref 0 0), (7, .d (.int _ _))] ⟨rfl, rfl, rfl, rfl, trivial⟩ ?_
          refine Runs.region ?_
          refine RO.opv (v' := .d (.int _ _)) (opv_move rfl) rfl ?_
          refine RO.opv (v' := .d (.int _ _)) (opv_bin rfl rfl rfl) rfl ?_
          refine RO.opv (v' := .d (.int _ _)) (opv_assign rfl) rfl ?_
          refine RO.nil ?_
          refine thenQ_normal ?_
          refine ⟨c + 1, 1, (by rw [hK]; exact Nat.le_of_ble_eq_true rfl), ⟨rfl, rfl, rfl, trivial⟩, ⟨?_, trivial⟩, rfl, ?_, ?_⟩
          · refine int_eq ?_; rw [wrap64 (by omega) (by omega)]; omega
          · refine ⟨by omega, fun j h => ?_⟩
            rcases Nat.lt_succ_iff_lt_or_eq.1 h with h' | h'
            · exact hc0.2 j h'
            · subst h'; rw [← hd]; exact hf
          · omega
  · try simp only [Z.a, Z.b, Z.c, Z.d, Z.e, Z.f, Z.g, Z.h, Z.i, Z.j, Z.k, Z.l, Z.m] at h1
    have hc : c = M.length := by omega
    refine RO.nil ?_
    refine Runs.condF rfl ?_
    refine Runs.exit ?_
    refine thenQ_exit ?_
    refine thenQ_exit ?_
    refine blockQ_here ?_
    refine thenQ_normal ?_
    refine Runs.has [] trivial ?_
    refine Runs.rseq ?_
    refine RO.opv (v' := .d (.int _ _)) (opv_assign rfl) rfl ?_
    refine RO.nil ?_
    refine Runs.ret ?_
    refine EndQ.tmp (.inr rfl) rfl rfl 0 (by exact Nat.le_refl _) (by exact Nat.zero_le _) trivial ⟨?_, rfl⟩
    first
      | (refine int_eq ?_; exact (foundI_yes hc (by rw [← hd]; exact hf) hc0.2).symm)
      | (refine int_eq ?_; refine (foundI_no fun j hj => hc0.2 j (by omega)).symm)
theorem tmeet_fn (M : List (List Bool)) (n : Nat) (hs : Sq n M) (hn : n ≤ 16) (a b : Int) : Fn Try.prog 32 [.d (encR M), .d (.int .i64 a), .d (.int .i64 b)] [] (.d (.int .i64 (meetR M a b))) [] := by
  have hl16 : M.length ≤ 16 := by rw [hs.1]; exact hn
  refine Does.run Try.func32 rfl Try.ntmps32 rfl fun K hK => ?_
  refine Runs.rseq ?_
  refine RO.opn (v' := .ref 0 0) (O' := [_]) (opv_box rfl rfl) rfl rfl ?_
  refine RO.opv (v' := .d (.int _ _)) (opv_assign rfl) rfl ?_
  refine RO.nil ?_
  refine Runs.has [(1, .d (.int _ _)), (2, .d (.int _ _)), (3, .ref 0 0), (6, .d (.int _ _))] ⟨rfl, rfl, rfl, rfl, trivial⟩ ?_
  refine Runs.seq ?_
  refine Runs.rseq ?_
  refine RO.opv (v' := .d (.int _ _)) (opv_assign rfl) rfl ?_
  refine RO.nil ?_
  refine Runs.block ?_
  refine Runs.loopC (X := Nat) (fun c => c ≤ M.length ∧ ∀ j, j < c → mstR M a b (j : Nat) M.length = false) (fun c => M.length - c) [(1, .d (.int _ _)), (2, .d (.int _ _)), (3, .ref 0 0)] (fun c => [(7, .d (.int .i64 (c : Nat)))]) [_] (fun c => []) (0) ⟨rfl, rfl, rfl, trivial⟩ ⟨rfl, trivial⟩ rfl ⟨Nat.zero_le _, fun j h => absurd h (Nat.not_lt_zero _)⟩ fun c hc0 => ?_
  refine Runs.seq ?_
  refine Runs.rseq ?_
  refine RO.opv (v' := .d (.int _ _)) (opv_move rfl) rfl ?_
  refine RO.opv (v' := .ref 0 0) (opv_field_ref rfl rfl) rfl ?_
  refine RO.opv (v' := .d (.list (rowsD _))) (opv_load_ref rfl rfl rfl) rfl ?_
  refine RO.opv (v' := .d (.int _ _)) (opv_len_rows rfl) rfl ?_
  refine RO.opc (opv_bin rfl rfl rfl) (fun h1 => ?_) (fun h1 => ?_)
  · try simp only [Z.a, Z.b, Z.c, Z.d, Z.e, Z.f, Z.g, Z.h, Z.i, Z.j, Z.k, Z.l, Z.m] at h1
    have hc : c < M.length := by omega
    refine RO.nil ?_
    refine Runs.condT rfl ?_
    refine Runs.skip ?_
    refine thenQ_normal ?_
    refine Runs.has [(1, .d (.int _ _)), (2, .d (.int _ _)), (3, .ref 0 0), (7, .d (.int _ _))] ⟨rfl, rfl, rfl, rfl, trivial⟩ ?_
    refine Runs.seq ?_
    refine Runs.block ?_
    refine Runs.rseq ?_
    refine RO.opv (v' := .d (encR _)) (opv_load_ref rfl rfl rfl) rfl ?_
    refine RO.opv (v' := .d (.int _ _)) (opv_move rfl) rfl ?_
    refine RO.opv (v' := .d (.int _ _)) (opv_move rfl) rfl ?_
    refine RO.opv (v' := .d (.bool _)) (opv_callF (tleq_fn M n hs hn _ _) rfl rfl rfl trivial) rfl ?_
    refine RO.opc (opv_move rfl) (fun h2 => ?_) (fun h2 => ?_)
    · try simp only [Z.a, Z.b, Z.c, Z.d, Z.e, Z.f, Z.g, Z.h, Z.i, Z.j, Z.k, Z.l, Z.m] at h2
      have q1 := h2
      refine RO.opgv (v' := .d (encR _)) rfl (opv_load_ref rfl rfl rfl) rfl ?_
      refine RO.opgv (v' := .d (.int _ _)) rfl (opv_move rfl) rfl ?_
      refine RO.opgv (v' := .d (.int _ _)) rfl (opv_move rfl) rfl ?_
      refine RO.opgv (v' := .d (.bool _)) rfl (opv_callF (tleq_fn M n hs hn _ _) rfl rfl rfl trivial) rfl ?_
      refine RO.opv (v' := .d (.bool _)) (opv_pick rfl rfl) rfl ?_
      refine RO.opv (v' := .d (.bool _)) (opv_assign rfl) rfl ?_
      refine RO.nil ?_
      refine Runs.has [(1, .d (.int _ _)), (2, .d (.int _ _)), (3, .ref 0 0), (7, .d (.int _ _)), (8, .d (.bool _))] ⟨rfl, rfl, rfl, rfl, rfl, trivial⟩ ?_
      refine Runs.seq ?_
      refine Runs.rseq ?_
      refine RO.opv (v' := .d (.int _ _)) (opv_assign rfl) rfl ?_
      refine RO.nil ?_
      refine Runs.block ?_
      refine Runs.loopC (X := Nat) (fun d => d ≤ M.length) (fun d => M.length - d) [(1, .d (.int _ _)), (2, .d (.int _ _)), (3, .ref 0 0), (7, .d (.int _ _))] (fun d => [(8, .d (.bool (mstR M a b (c : Nat) d))), (9, .d (.int .i64 (d : Nat)))]) [_] (fun d => []) (0) ⟨rfl, rfl, rfl, rfl, trivial⟩ ⟨(show AV.d (.bool _) = _ from bool_eq (by unfold mstR; first | (rw [q1, Bool.true_and]; simp; done) | (rw [q1]; simp; done))), rfl, trivial⟩ rfl (by omega) fun d hd0 => ?_
      refine Runs.seq ?_
      refine Runs.rseq ?_
      refine RO.opv (v' := .d (.int _ _)) (opv_move rfl) rfl ?_
      refine RO.opv (v' := .ref 0 0) (opv_field_ref rfl rfl) rfl ?_
      refine RO.opv (v' := .d (.list (rowsD _))) (opv_load_ref rfl rfl rfl) rfl ?_
      refine RO.opv (v' := .d (.int _ _)) (opv_len_rows rfl) rfl ?_
      refine RO.opc (opv_bin rfl rfl rfl) (fun h3 => ?_) (fun h3 => ?_)
      · try simp only [Z.a, Z.b, Z.c, Z.d, Z.e, Z.f, Z.g, Z.h, Z.i, Z.j, Z.k, Z.l, Z.m] at h3
        have hd : d < M.length := by omega
        refine RO.nil ?_
        refine Runs.condT rfl ?_
        refine Runs.skip ?_
        refine thenQ_normal ?_
        refine Runs.has [(1, .d (.int _ _)), (2, .d (.int _ _)), (3, .ref 0 0), (7, .d (.int _ _)), (8, .d (.bool _)), (9, .d (.int _ _))] ⟨rfl, rfl, rfl, rfl, rfl, rfl, trivial⟩ ?_
        refine Runs.seq ?_
        refine Runs.block ?_
        refine Runs.rseq ?_
        refine RO.opv (v' := .d (encR _)) (opv_load_ref rfl rfl rfl) rfl ?_
        refine RO.opv (v' := .d (.int _ _)) (opv_move rfl) rfl ?_
        refine RO.opv (v' := .d (.int _ _)) (opv_move rfl) rfl ?_
        refine RO.opv (v' := .d (.bool _)) (opv_callF (tleq_fn M n hs hn _ _) rfl rfl rfl trivial) rfl ?_
        refine RO.opc (opv_move rfl) (fun h4 => ?_) (fun h4 => ?_)
        · try simp only [Z.a, Z.b, Z.c, Z.d, Z.e, Z.f, Z.g, Z.h, Z.i, Z.j, Z.k, Z.l, Z.m] at h4
          have r1 := h4
          refine RO.opgv (v' := .d (encR _)) rfl (opv_load_ref rfl rfl rfl) rfl ?_
          refine RO.opgv (v' := .d (.int _ _)) rfl (opv_move rfl) rfl ?_
          refine RO.opgv (v' := .d (.int _ _)) rfl (opv_move rfl) rfl ?_
          refine RO.opgv (v' := .d (.bool _)) rfl (opv_callF (tleq_fn M n hs hn _ _) rfl rfl rfl trivial) rfl ?_
          refine RO.opv (v' := .d (.bool _)) (opv_pick rfl rfl) rfl ?_
          refine RO.opc (opv_move rfl) (fun h5 => ?_) (fun h5 => ?_)
          · try simp only [Z.a, Z.b, Z.c, Z.d, Z.e, Z.f, Z.g, Z.h, Z.i, Z.j, Z.k, Z.l, Z.m] at h5
            have r2 := h5
            refine RO.opgv (v' := .d (encR _)) rfl (opv_load_ref rfl rfl rfl) rfl ?_
            refine RO.opgv (v' := .d (.int _ _)) rfl (opv_move rfl) rfl ?_
            refine RO.opgv (v' := .d (.int _ _)) rfl (opv_move rfl) rfl ?_
            refine RO.opgv (v' := .d (.bool _)) rfl (opv_callF (tleq_fn M n hs hn _ _) rfl rfl rfl trivial) rfl ?_
            refine RO.opgv (v' := .d (.bool _)) rfl (opv_not rfl rfl) rfl ?_
            refine RO.opc (opv_pick rfl rfl) (fun h6 => ?_) (fun h6 => ?_)
            · try simp only [Z.a, Z.b, Z.c, Z.d, Z.e, Z.f, Z.g, Z.h, Z.i, Z.j, Z.k, Z.l, Z.m] at h6
              have r3 := h6
              refine RO.nil ?_
              refine Runs.condT rfl ?_
              refine Runs.has [(1, .d (.int _ _)), (2, .d (.int _ _)), (3, .ref 0 0), (7, .d (.int _ _)), (8, .d (.bool _)), (9, .d (.int _ _))] ⟨rfl, rfl, rfl, rfl, rfl, rfl, trivial⟩ ?_
              refine Runs.region ?_
              refine RO.opv (v' := .d (.bool false)) (opv_assign rfl) rfl ?_
              refine RO.nil ?_
              refine blockQ_normal ?_
              refine thenQ_normal ?_
              refine Runs.region ?_
              refine RO.opv (v' := .d (.int _ _)) (opv_move rfl) rfl ?_
              refine RO.opv (v' := .d (.int _ _)) (opv_bin rfl rfl rfl) rfl ?_
              refine RO.opv (v' := .d (.int _ _)) (opv_assign rfl) rfl ?_
              refine RO.nil ?_
              refine thenQ_normal ?_
              refine ⟨d + 1, 1, (by rw [hK]; exact Nat.le_of_ble_eq_true rfl), ⟨rfl, rfl, rfl, rfl, trivial⟩, ⟨?_, ?_, trivial⟩, rfl, ?_, ?_⟩
              · refine bool_eq ?_; rw [mstR_succ]; first | (rw [r1, r2, show leqR M (d : Nat) (c : Nat) = true from by simpa using r3]; simp; done) | (rw [r1, r2, show leqR M (d : Nat) (c : Nat) = false from by simpa using r3]; simp; done) | (rw [r1, r2]; simp; done) | (rw [r1]; simp; done) | (simp [r1, r2, r3]; done) | (simp [r1, r2]; done)
              · refine int_eq ?_; rw [wrap64 (by omega) (by omega)]; omega
              · omega
              · omega
            · try simp only [Z.a, Z.b, Z.c, Z.d, Z.e, Z.f, Z.g, Z.h, Z.i, Z.j, Z.k, Z.l, Z.m] at h6
              have r3 := h6
              refine RO.nil ?_
              refine Runs.condF rfl ?_
              refine Runs.skip ?_
              refine blockQ_normal ?_
              refine thenQ_normal ?_
              refine Runs.has [(1, .d (.int _ _)), (2, .d (.int _ _)), (3, .ref 0 0), (7, .d (.int _ _)), (8, .d (.bool _)), (9, .d (.int _ _))] ⟨rfl, rfl, rfl, rfl, rfl, rfl, trivial⟩ ?_
              refine Runs.region ?_
              refine RO.opv (v' := .d (.int _ _)) (opv_move rfl) rfl ?_
              refine RO.opv (v' := .d (.int _ _)) (opv_bin rfl rfl rfl) rfl ?_
              refine RO.opv (v' := .d (.int _ _)) (opv_assign rfl) rfl ?_
              refine RO.nil ?_
              refine thenQ_normal ?_
              refine ⟨d + 1, 1, (by rw [hK]; exact Nat.le_of_ble_eq_true rfl), ⟨rfl, rfl, rfl, rfl, trivial⟩, ⟨?_, ?_, trivial⟩, rfl, ?_, ?_⟩
              · refine bool_eq ?_; rw [mstR_succ]; first | (rw [r1, r2, show leqR M (d : Nat) (c : Nat) = true from by simpa using r3]; simp; done) | (rw [r1, r2, show leqR M (d : Nat) (c : Nat) = false from by simpa using r3]; simp; done) | (rw [r1, r2]; simp; done) | (rw [r1]; simp; done) | (simp [r1, r2, r3]; done) | (simp [r1, r2]; done)
              · refine int_eq ?_; rw [wrap64 (by omega) (by omega)]; omega
              · omega
              · omega
          · try simp only [Z.a, Z.b, Z.c, Z.d, Z.e, Z.f, Z.g, Z.h, Z.i, Z.j, Z.k, Z.l, Z.m] at h5
            have r2 := h5
            refine RO.off rfl ?_
            refine RO.off rfl ?_
            refine RO.off rfl ?_
            refine RO.off rfl ?_
            refine RO.off rfl ?_
            refine RO.opv (v' := .d (.bool false)) (opv_pick rfl rfl) rfl ?_
            refine RO.nil ?_
            refine Runs.condF rfl ?_
            refine Runs.skip ?_
            refine blockQ_normal ?_
            refine thenQ_normal ?_
            refine Runs.has [(1, .d (.int _ _)), (2, .d (.int _ _)), (3, .ref 0 0), (7, .d (.int _ _)), (8, .d (.bool _)), (9, .d (.int _ _))] ⟨rfl, rfl, rfl, rfl, rfl, rfl, trivial⟩ ?_
            refine Runs.region ?_
            refine RO.opv (v' := .d (.int _ _)) (opv_move rfl) rfl ?_
            refine RO.opv (v' := .d (.int _ _)) (opv_bin rfl rfl rfl) rfl ?_
            refine RO.opv (v' := .d (.int _ _)) (opv_assign rfl) rfl ?_
            refine RO.nil ?_
            refine thenQ_normal ?_
            refine ⟨d + 1, 1, (by rw [hK]; exact Nat.le_of_ble_eq_true rfl), ⟨rfl, rfl, rfl, rfl, trivial⟩, ⟨?_, ?_, trivial⟩, rfl, ?_, ?_⟩
            · refine bool_eq ?_; rw [mstR_succ]; first | (rw [r1, r2, show leqR M (d : Nat) (c : Nat) = true from by simpa using r3]; simp; done) | (rw [r1, r2, show leqR M (d : Nat) (c : Nat) = false from by simpa using r3]; simp; done) | (rw [r1, r2]; simp; done) | (rw [r1]; simp; done) | (simp [r1, r2, r3]; done) | (simp [r1, r2]; done)
            · refine int_eq ?_; rw [wrap64 (by omega) (by omega)]; omega
            · omega
            · omega
        · try simp only [Z.a, Z.b, Z.c, Z.d, Z.e, Z.f, Z.g, Z.h, Z.i, Z.j, Z.k, Z.l, Z.m] at h4
          have r1 := h4
          refine RO.off rfl ?_
          refine RO.off rfl ?_
          refine RO.off rfl ?_
          refine RO.off rfl ?_
          refine RO.opv (v' := .d (.bool false)) (opv_pick rfl rfl) rfl ?_
          refine RO.opv (v' := .d (.bool false)) (opv_move rfl) rfl ?_
          refine RO.off rfl ?_
          refine RO.off rfl ?_
          refine RO.off rfl ?_
          refine RO.off rfl ?_
          refine RO.off rfl ?_
          refine RO.opv (v' := .d (.bool false)) (opv_pick rfl rfl) rfl ?_
          refine RO.nil ?_
          refine Runs.condF rfl ?_
          refine Runs.skip ?_
          refine blockQ_normal ?_
          refine thenQ_normal ?_
          refine Runs.has [(1, .d (.int _ _)), (2, .d (.int _ _)), (3, .ref 0 0), (7, .d (.int _ _)), (8, .d (.bool _)), (9, .d (.int _ _))] ⟨rfl, rfl, rfl, rfl, rfl, rfl, trivial⟩ ?_
          refine Runs.region ?_
          refine RO.opv (v' := .d (.int _ _)) (opv_move rfl) rfl ?_
          refine RO.opv (v' := .d (.int _ _)) (opv_bin rfl rfl rfl) rfl ?_
          refine RO.opv (v' := .d (.int _ _)) (opv_assign rfl) rfl ?_
          refine RO.nil ?_
          refine thenQ_normal ?_
          refine ⟨d + 1, 1, (by rw [hK]; exact Nat.le_of_ble_eq_true rfl), ⟨rfl, rfl, rfl, rfl, trivial⟩, ⟨?_, ?_, trivial⟩, rfl, ?_, ?_⟩
          · refine bool_eq ?_; rw [mstR_succ]; first | (rw [r1, r2, show leqR M (d : Nat) (c : Nat) = true from by simpa using r3]; simp; done) | (rw [r1, r2, show leqR M (d : Nat) (c : Nat) = false from by simpa using r3]; simp; done) | (rw [r1, r2]; simp; done) | (rw [r1]; simp; done) | (simp [r1, r2, r3]; done) | (simp [r1, r2]; done)
          · refine int_eq ?_; rw [wrap64 (by omega) (by omega)]; omega
          · omega
          · omega
      · try simp only [Z.a, Z.b, Z.c, Z.d, Z.e, Z.f, Z.g, Z.h, Z.i, Z.j, Z.k, Z.l, Z.m] at h3
        have hd : d = M.length := by omega
        refine RO.nil ?_
        refine Runs.condF rfl ?_
        refine Runs.exit ?_
        refine thenQ_exit ?_
        refine thenQ_exit ?_
        refine blockQ_here ?_
        refine thenQ_normal ?_
        refine Runs.has [(1, .d (.int _ _)), (2, .d (.int _ _)), (3, .ref 0 0), (7, .d (.int _ _)), (8, .d (.bool _))] ⟨rfl, rfl, rfl, rfl, rfl, trivial⟩ ?_
        refine Runs.rseq ?_
        refine RO.opc (opv_move rfl) (fun h7 => ?_) (fun h7 => ?_)
        · try simp only [Z.a, Z.b, Z.c, Z.d, Z.e, Z.f, Z.g, Z.h, Z.i, Z.j, Z.k, Z.l, Z.m] at h7
          have hf := h7
          refine RO.nil ?_
          refine Runs.condT rfl ?_
          refine Runs.has [(1, .d (.int _ _)), (2, .d (.int _ _)), (3, .ref 0 0), (7, .d (.int _ _))] ⟨rfl, rfl, rfl, rfl, trivial⟩ ?_
          refine Runs.rseq ?_
          refine RO.opv (v' := .d (.int _ _)) (opv_move rfl) rfl ?_
          refine RO.opv (v' := .d (.int _ _)) (opv_assign rfl) rfl ?_
          refine RO.nil ?_
          refine Runs.ret ?_
          refine blockQ_ret ?_
          refine thenQ_ret ?_
          refine thenQ_ret ?_
          refine blockQ_ret ?_
          refine thenQ_ret ?_
          refine EndQ.tmp (.inr rfl) rfl rfl 0 (by exact Nat.le_refl _) (by exact Nat.zero_le _) trivial ⟨?_, rfl⟩
          first
            | (refine int_eq ?_; exact (foundI_yes hc (by rw [← hd]; exact hf) hc0.2).symm)
            | (refine int_eq ?_; refine (foundI_no fun j hj => hc0.2 j (by omega)).symm)
        · try simp only [Z.a, Z.b, Z.c, Z.d, Z.e, Z.f, Z.g, Z.h, Z.i, Z.j, Z.k, Z.l, Z.m] at h7
          have hf := h7
          refine RO.nil ?_
          refine Runs.condF rfl ?_
          refine Runs.skip ?_
          refine blockQ_normal ?_
          refine thenQ_normal ?_
          refine Runs.has [(1, .d (.int _ _)), (2, .d (.int _ _)), (3, .ref 0 0), (7, .d (.int _ _))] ⟨rfl, rfl, rfl, rfl, trivial⟩ ?_
          refine Runs.region ?_
          refine RO.opv (v' := .d (.int _ _)) (opv_move rfl) rfl ?_
          refine RO.opv (v' := .d (.int _ _)) (opv_bin rfl rfl rfl) rfl ?_
          refine RO.opv (v' := .d (.int _ _)) (opv_assign rfl) rfl ?_
          refine RO.nil ?_
          refine thenQ_normal ?_
          refine ⟨c + 1, 1, (by rw [hK]; exact Nat.le_of_ble_eq_true rfl), ⟨rfl, rfl, rfl, trivial⟩, ⟨?_, trivial⟩, rfl, ?_, ?_⟩
          · refine int_eq ?_; rw [wrap64 (by omega) (by omega)]; omega
          · refine ⟨by omega, fun j h => ?_⟩
            rcases Nat.lt_succ_iff_lt_or_eq.1 h with h' | h'
            · exact hc0.2 j h'
            · subst h'; rw [← hd]; exact hf
          · omega
    · try simp only [Z.a, Z.b, Z.c, Z.d, Z.e, Z.f, Z.g, Z.h, Z.i, Z.j, Z.k, Z.l, Z.m] at h2
      have q1 := h2
      refine RO.off rfl ?_
      refine RO.off rfl ?_
      refine RO.off rfl ?_
      refine RO.off rfl ?_
      refine RO.opv (v' := .d (.bool false)) (opv_pick rfl rfl) rfl ?_
      refine RO.opv (v' := .d (.bool false)) (opv_assign rfl) rfl ?_
      refine RO.nil ?_
      refine Runs.has [(1, .d (.int _ _)), (2, .d (.int _ _)), (3, .ref 0 0), (7, .d (.int _ _)), (8, .d (.bool false))] ⟨rfl, rfl, rfl, rfl, rfl, trivial⟩ ?_
      refine Runs.seq ?_
      refine Runs.rseq ?_
      refine RO.opv (v' := .d (.int _ _)) (opv_assign rfl) rfl ?_
      refine RO.nil ?_
      refine Runs.block ?_
      refine Runs.loopC (X := Nat) (fun d => d ≤ M.length) (fun d => M.length - d) [(1, .d (.int _ _)), (2, .d (.int _ _)), (3, .ref 0 0), (7, .d (.int _ _))] (fun d => [(8, .d (.bool (mstR M a b (c : Nat) d))), (9, .d (.int .i64 (d : Nat)))]) [_] (fun d => []) (0) ⟨rfl, rfl, rfl, rfl, trivial⟩ ⟨(show AV.d (.bool _) = _ from bool_eq (by unfold mstR; first | (rw [q1, Bool.true_and]; simp; done) | (rw [q1]; simp; done))), rfl, trivial⟩ rfl (by omega) fun d hd0 => ?_
      refine Runs.seq ?_
      refine Runs.rseq ?_
      refine RO.opv (v' := .d (.int _ _)) (opv_move rfl) rfl ?_
      refine RO.opv (v' := .ref 0 0) (opv_field_ref rfl rfl) rfl ?_
      refine RO.opv (v' := .d (.list (rowsD _))) (opv_load_ref rfl rfl rfl) rfl ?_
      refine RO.opv (v' := .d (.int _ _)) (opv_len_rows rfl) rfl ?_
      refine RO.opc (opv_bin rfl rfl rfl) (fun h8 => ?_) (fun h8 => ?_)
      · try simp only [Z.a, Z.b, Z.c, Z.d, Z.e, Z.f, Z.g, Z.h, Z.i, Z.j, Z.k, Z.l, Z.m] at h8
        have hd : d < M.length := by omega
        refine RO.nil ?_
        refine Runs.condT rfl ?_
        refine Runs.skip ?_
        refine thenQ_normal ?_
        refine Runs.has [(1, .d (.int _ _)), (2, .d (.int _ _)), (3, .ref 0 0), (7, .d (.int _ _)), (8, .d (.bool _)), (9, .d (.int _ _))] ⟨rfl, rfl, rfl, rfl, rfl, rfl, trivial⟩ ?_
        refine Runs.seq ?_
        refine Runs.block ?_
        refine Runs.rseq ?_
        refine RO.opv (v' := .d (encR _)) (opv_load_ref rfl rfl rfl) rfl ?_
        refine RO.opv (v' := .d (.int _ _)) (opv_move rfl) rfl ?_
        refine RO.opv (v' := .d (.int _ _)) (opv_move rfl) rfl ?_
        refine RO.opv (v' := .d (.bool _)) (opv_callF (tleq_fn M n hs hn _ _) rfl rfl rfl trivial) rfl ?_
        refine RO.opc (opv_move rfl) (fun h9 => ?_) (fun h9 => ?_)
        · try simp only [Z.a, Z.b, Z.c, Z.d, Z.e, Z.f, Z.g, Z.h, Z.i, Z.j, Z.k, Z.l, Z.m] at h9
          have r1 := h9
          refine RO.opgv (v' := .d (encR _)) rfl (opv_load_ref rfl rfl rfl) rfl ?_
          refine RO.opgv (v' := .d (.int _ _)) rfl (opv_move rfl) rfl ?_
          refine RO.opgv (v' := .d (.int _ _)) rfl (opv_move rfl) rfl ?_
          refine RO.opgv (v' := .d (.bool _)) rfl (opv_callF (tleq_fn M n hs hn _ _) rfl rfl rfl trivial) rfl ?_
          refine RO.opv (v' := .d (.bool _)) (opv_pick rfl rfl) rfl ?_
          refine RO.opc (opv_move rfl) (fun h10 => ?_) (fun h10 => ?_)
          · try simp only [Z.a, Z.b, Z.c, Z.d, Z.e, Z.f, Z.g, Z.h, Z.i, Z.j, Z.k, Z.l, Z.m] at h10
            have r2 := h10
            refine RO.opgv (v' := .d (encR _)) rfl (opv_load_ref rfl rfl rfl) rfl ?_
            refine RO.opgv (v' := .d (.int _ _)) rfl (opv_move rfl) rfl ?_
            refine RO.opgv (v' := .d (.int _ _)) rfl (opv_move rfl) rfl ?_
            refine RO.opgv (v' := .d (.bool _)) rfl (opv_callF (tleq_fn M n hs hn _ _) rfl rfl rfl trivial) rfl ?_
            refine RO.opgv (v' := .d (.bool _)) rfl (opv_not rfl rfl) rfl ?_
            refine RO.opc (opv_pick rfl rfl) (fun h11 => ?_) (fun h11 => ?_)
            · try simp only [Z.a, Z.b, Z.c, Z.d, Z.e, Z.f, Z.g, Z.h, Z.i, Z.j, Z.k, Z.l, Z.m] at h11
              have r3 := h11
              refine RO.nil ?_
              refine Runs.condT rfl ?_
              refine Runs.has [(1, .d (.int _ _)), (2, .d (.int _ _)), (3, .ref 0 0), (7, .d (.int _ _)), (8, .d (.bool _)), (9, .d (.int _ _))] ⟨rfl, rfl, rfl, rfl, rfl, rfl, trivial⟩ ?_
              refine Runs.region ?_
              refine RO.opv (v' := .d (.bool false)) (opv_assign rfl) rfl ?_
              refine RO.nil ?_
              refine blockQ_normal ?_
              refine thenQ_normal ?_
              refine Runs.region ?_
              refine RO.opv (v' := .d (.int _ _)) (opv_move rfl) rfl ?_
              refine RO.opv (v' := .d (.int _ _)) (opv_bin rfl rfl rfl) rfl ?_
              refine RO.opv (v' := .d (.int _ _)) (opv_assign rfl) rfl ?_
              refine RO.nil ?_
              refine thenQ_normal ?_
              refine ⟨d + 1, 1, (by rw [hK]; exact Nat.le_of_ble_eq_true rfl), ⟨rfl, rfl, rfl, rfl, trivial⟩, ⟨?_, ?_, trivial⟩, rfl, ?_, ?_⟩
              · refine bool_eq ?_; rw [mstR_succ]; first | (rw [r1, r2, show leqR M (d : Nat) (c : Nat) = true from by simpa using r3]; simp; done) | (rw [r1, r2, show leqR M (d : Nat) (c : Nat) = false from by simpa using r3]; simp; done) | (rw [r1, r2]; simp; done) | (rw [r1]; simp; done) | (simp [r1, r2, r3]; done) | (simp [r1, r2]; done)
              · refine int_eq ?_; rw [wrap64 (by omega) (by omega)]; omega
              · omega
              · omega
            · try simp only [Z.a, Z.b, Z.c, Z.d, Z.e, Z.f, Z.g, Z.h, Z.i, Z.j, Z.k, Z.l, Z.m] at h11
              have r3 := h11
              refine RO.nil ?_
              refine Runs.condF rfl ?_
              refine Runs.skip ?_
              refine blockQ_normal ?_
              refine thenQ_normal ?_
              refine Runs.has [(1, .d (.int _ _)), (2, .d (.int _ _)), (3, .ref 0 0), (7, .d (.int _ _)), (8, .d (.bool _)), (9, .d (.int _ _))] ⟨rfl, rfl, rfl, rfl, rfl, rfl, trivial⟩ ?_
              refine Runs.region ?_
              refine RO.opv (v' := .d (.int _ _)) (opv_move rfl) rfl ?_
              refine RO.opv (v' := .d (.int _ _)) (opv_bin rfl rfl rfl) rfl ?_
              refine RO.opv (v' := .d (.int _ _)) (opv_assign rfl) rfl ?_
              refine RO.nil ?_
              refine thenQ_normal ?_
              refine ⟨d + 1, 1, (by rw [hK]; exact Nat.le_of_ble_eq_true rfl), ⟨rfl, rfl, rfl, rfl, trivial⟩, ⟨?_, ?_, trivial⟩, rfl, ?_, ?_⟩
              · refine bool_eq ?_; rw [mstR_succ]; first | (rw [r1, r2, show leqR M (d : Nat) (c : Nat) = true from by simpa using r3]; simp; done) | (rw [r1, r2, show leqR M (d : Nat) (c : Nat) = false from by simpa using r3]; simp; done) | (rw [r1, r2]; simp; done) | (rw [r1]; simp; done) | (simp [r1, r2, r3]; done) | (simp [r1, r2]; done)
              · refine int_eq ?_; rw [wrap64 (by omega) (by omega)]; omega
              · omega
              · omega
          · try simp only [Z.a, Z.b, Z.c, Z.d, Z.e, Z.f, Z.g, Z.h, Z.i, Z.j, Z.k, Z.l, Z.m] at h10
            have r2 := h10
            refine RO.off rfl ?_
            refine RO.off rfl ?_
            refine RO.off rfl ?_
            refine RO.off rfl ?_
            refine RO.off rfl ?_
            refine RO.opv (v' := .d (.bool false)) (opv_pick rfl rfl) rfl ?_
            refine RO.nil ?_
            refine Runs.condF rfl ?_
            refine Runs.skip ?_
            refine blockQ_normal ?_
            refine thenQ_normal ?_
            refine Runs.has [(1, .d (.int _ _)), (2, .d (.int _ _)), (3, .ref 0 0), (7, .d (.int _ _)), (8, .d (.bool _)), (9, .d (.int _ _))] ⟨rfl, rfl, rfl, rfl, rfl, rfl, trivial⟩ ?_
            refine Runs.region ?_
            refine RO.opv (v' := .d (.int _ _)) (opv_move rfl) rfl ?_
            refine RO.opv (v' := .d (.int _ _)) (opv_bin rfl rfl rfl) rfl ?_
            refine RO.opv (v' := .d (.int _ _)) (opv_assign rfl) rfl ?_
            refine RO.nil ?_
            refine thenQ_normal ?_
            refine ⟨d + 1, 1, (by rw [hK]; exact Nat.le_of_ble_eq_true rfl), ⟨rfl, rfl, rfl, rfl, trivial⟩, ⟨?_, ?_, trivial⟩, rfl, ?_, ?_⟩
            · refine bool_eq ?_; rw [mstR_succ]; first | (rw [r1, r2, show leqR M (d : Nat) (c : Nat) = true from by simpa using r3]; simp; done) | (rw [r1, r2, show leqR M (d : Nat) (c : Nat) = false from by simpa using r3]; simp; done) | (rw [r1, r2]; simp; done) | (rw [r1]; simp; done) | (simp [r1, r2, r3]; done) | (simp [r1, r2]; done)
            · refine int_eq ?_; rw [wrap64 (by omega) (by omega)]; omega
            · omega
            · omega
        · try simp only [Z.a, Z.b, Z.c, Z.d, Z.e, Z.f, Z.g, Z.h, Z.i, Z.j, Z.k, Z.l, Z.m] at h9
          have r1 := h9
          refine RO.off rfl ?_
          refine RO.off rfl ?_
          refine RO.off rfl ?_
          refine RO.off rfl ?_
          refine RO.opv (v' := .d (.bool false)) (opv_pick rfl rfl) rfl ?_
          refine RO.opv (v' := .d (.bool false)) (opv_move rfl) rfl ?_
          refine RO.off rfl ?_
          refine RO.off rfl ?_
          refine RO.off rfl ?_
          refine RO.off rfl ?_
          refine RO.off rfl ?_
          refine RO.opv (v' := .d (.bool false)) (opv_pick rfl rfl) rfl ?_
          refine RO.nil ?_
          refine Runs.condF rfl ?_
          refine Runs.skip ?_
          refine blockQ_normal ?_
          refine thenQ_normal ?_
          refine Runs.has [(1, .d (.int _ _)), (2, .d (.int _ _)), (3, .ref 0 0), (7, .d (.int _ _)), (8, .d (.bool _)), (9, .d (.int _ _))] ⟨rfl, rfl, rfl, rfl, rfl, rfl, trivial⟩ ?_
          refine Runs.region ?_
          refine RO.opv (v' := .d (.int _ _)) (opv_move rfl) rfl ?_
          refine RO.opv (v' := .d (.int _ _)) (opv_bin rfl rfl rfl) rfl ?_
          refine RO.opv (v' := .d (.int _ _)) (opv_assign rfl) rfl ?_
          refine RO.nil ?_
          refine thenQ_normal ?_
          refine ⟨d + 1, 1, (by rw [hK]; exact Nat.le_of_ble_eq_true rfl), ⟨rfl, rfl, rfl, rfl, trivial⟩, ⟨?_, ?_, trivial⟩, rfl, ?_, ?_⟩
          · refine bool_eq ?_; rw [mstR_succ]; first | (rw [r1, r2, show leqR M (d : Nat) (c : Nat) = true from by simpa using r3]; simp; done) | (rw [r1, r2, show leqR M (d : Nat) (c : Nat) = false from by simpa using r3]; simp; done) | (rw [r1, r2]; simp; done) | (rw [r1]; simp; done) | (simp [r1, r2, r3]; done) | (simp [r1, r2]; done)
          · refine int_eq ?_; rw [wrap64 (by omega) (by omega)]; omega
          · omega
          · omega
      · try simp only [Z.a, Z.b, Z.c, Z.d, Z.e, Z.f, Z.g, Z.h, Z.i, Z.j, Z.k, Z.l, Z.m] at h8
        have hd : d = M.length := by omega
        refine RO.nil ?_
        refine Runs.condF rfl ?_
        refine Runs.exit ?_
        refine thenQ_exit ?_
        refine thenQ_exit ?_
        refine blockQ_here ?_
        refine thenQ_normal ?_
        refine Runs.has [(1, .d (.int _ _)), (2, .d (.int _ _)), (3, .ref 0 0), (7, .d (.int _ _)), (8, .d (.bool _))] ⟨rfl, rfl, rfl, rfl, rfl, trivial⟩ ?_
        refine Runs.rseq ?_
        refine RO.opc (opv_move rfl) (fun h12 => ?_) (fun h12 => ?_)
        · try simp only [Z.a, Z.b, Z.c, Z.d, Z.e, Z.f, Z.g, Z.h, Z.i, Z.j, Z.k, Z.l, Z.m] at h12
          have hf := h12
          refine RO.nil ?_
          refine Runs.condT rfl ?_
          refine Runs.has [(1, .d (.int _ _)), (2, .d (.int _ _)), (3, .ref 0 0), (7, .d (.int _ _))] ⟨rfl, rfl, rfl, rfl, trivial⟩ ?_
          refine Runs.rseq ?_
          refine RO.opv (v' := .d (.int _ _)) (opv_move rfl) rfl ?_
          refine RO.opv (v' := .d (.int _ _)) (opv_assign rfl) rfl ?_
          refine RO.nil ?_
          refine Runs.ret ?_
          refine blockQ_ret ?_
          refine thenQ_ret ?_
          refine thenQ_ret ?_
          refine blockQ_ret ?_
          refine thenQ_ret ?_
          refine EndQ.tmp (.inr rfl) rfl rfl 0 (by exact Nat.le_refl _) (by exact Nat.zero_le _) trivial ⟨?_, rfl⟩
          first
            | (refine int_eq ?_; exact (foundI_yes hc (by rw [← hd]; exact hf) hc0.2).symm)
            | (refine int_eq ?_; refine (foundI_no fun j hj => hc0.2 j (by omega)).symm)
        · try simp only [Z.a, Z.b, Z.c, Z.d, Z.e, Z.f, Z.g, Z.h, Z.i, Z.j, Z.k, Z.l, Z.m] at h12
          have hf := h12
          refine RO.nil ?_
          refine Runs.condF rfl ?_
          refine Runs.skip ?_
          refine blockQ_normal ?_
          refine thenQ_normal ?_
          refine Runs.has [(1, .d (.int _ _)), (2, .d (.int _ _)), (3, .ref 0 0), (7, .d (.int _ _))] ⟨rfl, rfl, rfl, rfl, trivial⟩ ?_
          refine Runs.region ?_
          refine RO.opv (v' := .d (.int _ _)) (opv_move rfl) rfl ?_
          refine RO.opv (v' := .d (.int _ _)) (opv_bin rfl rfl rfl) rfl ?_
          refine RO.opv (v' := .d (.int _ _)) (opv_assign rfl) rfl ?_
          refine RO.nil ?_
          refine thenQ_normal ?_
          refine ⟨c + 1, 1, (by rw [hK]; exact Nat.le_of_ble_eq_true rfl), ⟨rfl, rfl, rfl, trivial⟩, ⟨?_, trivial⟩, rfl, ?_, ?_⟩
          · refine int_eq ?_; rw [wrap64 (by omega) (by omega)]; omega
          · refine ⟨by omega, fun j h => ?_⟩
            rcases Nat.lt_succ_iff_lt_or_eq.1 h with h' | h'
            · exact hc0.2 j h'
            · subst h'; rw [← hd]; exact hf
          · omega
  · try simp only [Z.a, Z.b, Z.c, Z.d, Z.e, Z.f, Z.g, Z.h, Z.i, Z.j, Z.k, Z.l, Z.m] at h1
    have hc : c = M.length := by omega
    refine RO.nil ?_
    refine Runs.condF rfl ?_
    refine Runs.exit ?_
    refine thenQ_exit ?_
    refine thenQ_exit ?_
    refine blockQ_here ?_
    refine thenQ_normal ?_
    refine Runs.has [] trivial ?_
    refine Runs.rseq ?_
    refine RO.opv (v' := .d (.int _ _)) (opv_assign rfl) rfl ?_
    refine RO.nil ?_
    refine Runs.ret ?_
    refine EndQ.tmp (.inr rfl) rfl rfl 0 (by exact Nat.le_refl _) (by exact Nat.zero_le _) trivial ⟨?_, rfl⟩
    first
      | (refine int_eq ?_; exact (foundI_yes hc (by rw [← hd]; exact hf) hc0.2).symm)
      | (refine int_eq ?_; refine (foundI_no fun j hj => hc0.2 j (by omega)).symm)
theorem tbot_fn (M : List (List Bool)) (n : Nat) (hs : Sq n M) (hn : n ≤ 16) : Fn Try.prog 46 [.d (encR M)] [] (.d (.int .i64 (botR M))) [] := by
  have hl16 : M.length ≤ 16 := by rw [hs.1]; exact hn
  refine Does.run Try.func46 rfl Try.ntmps46 rfl fun K hK => ?_
  refine Runs.rseq ?_
  refine RO.opn (v' := .ref 0 0) (O' := [_]) (opv_box rfl rfl) rfl rfl ?_
  refine RO.opv (v' := .d (.int _ _)) (opv_assign rfl) rfl ?_
  refine RO.nil ?_
  refine Runs.has [(1, .ref 0 0), (2, .d (.int _ _))] ⟨rfl, rfl, trivial⟩ ?_
  refine Runs.seq ?_
  refine Runs.rseq ?_
  refine RO.opv (v' := .d (.int _ _)) (opv_assign rfl) rfl ?_
  refine RO.nil ?_
  refine Runs.block ?_
  refine Runs.loopC (X := Nat) (fun c => c ≤ M.length ∧ ∀ j, j < c → allC M j M.length = false) (fun c => M.length - c) [(1, .ref 0 0)] (fun c => [(3, .d (.int .i64 (c : Nat)))]) [_] (fun c => []) (0) ⟨rfl, trivial⟩ ⟨rfl, trivial⟩ rfl ⟨Nat.zero_le _, fun j h => absurd h (Nat.not_lt_zero _)⟩ fun c hc0 => ?_
  refine Runs.seq ?_
  refine Runs.rseq ?_
  refine RO.opv (v' := .d (.int _ _)) (opv_move rfl) rfl ?_
  refine RO.opv (v' := .ref 0 0) (opv_field_ref rfl rfl) rfl ?_
  refine RO.opv (v' := .d (.list (rowsD _))) (opv_load_ref rfl rfl rfl) rfl ?_
  refine RO.opv (v' := .d (.int _ _)) (opv_len_rows rfl) rfl ?_
  refine RO.opc (opv_bin rfl rfl rfl) (fun h1 => ?_) (fun h1 => ?_)
  · try simp only [Z.a, Z.b, Z.c, Z.d, Z.e, Z.f, Z.g, Z.h, Z.i, Z.j, Z.k, Z.l, Z.m] at h1
    have hc : c < M.length := by omega
    refine RO.nil ?_
    refine Runs.condT rfl ?_
    refine Runs.skip ?_
    refine thenQ_normal ?_
    refine Runs.has [(1, .ref 0 0), (3, .d (.int _ _))] ⟨rfl, rfl, trivial⟩ ?_
    refine Runs.seq ?_
    refine Runs.block ?_
    refine Runs.rseq ?_
    refine RO.opv (v' := .d (.bool true)) (opv_assign rfl) rfl ?_
    refine RO.nil ?_
    refine Runs.seq ?_
    refine Runs.rseq ?_
    refine RO.opv (v' := .d (.int _ _)) (opv_assign rfl) rfl ?_
    refine RO.nil ?_
    refine Runs.block ?_
    refine Runs.loopC (X := Nat) (fun d => d ≤ M.length) (fun d => M.length - d) [(1, .ref 0 0), (3, .d (.int _ _))] (fun d => [(4, .d (.bool (allC M c d))), (5, .d (.int .i64 (d : Nat)))]) [_] (fun d => []) (0) ⟨rfl, rfl, trivial⟩ ⟨rfl, rfl, trivial⟩ rfl (by omega) fun d hd0 => ?_
    refine Runs.seq ?_
    refine Runs.rseq ?_
    refine RO.opv (v' := .d (.int _ _)) (opv_move rfl) rfl ?_
    refine RO.opv (v' := .ref 0 0) (opv_field_ref rfl rfl) rfl ?_
    refine RO.opv (v' := .d (.list (rowsD _))) (opv_load_ref rfl rfl rfl) rfl ?_
    refine RO.opv (v' := .d (.int _ _)) (opv_len_rows rfl) rfl ?_
    refine RO.opc (opv_bin rfl rfl rfl) (fun h2 => ?_) (fun h2 => ?_)
    · try simp only [Z.a, Z.b, Z.c, Z.d, Z.e, Z.f, Z.g, Z.h, Z.i, Z.j, Z.k, Z.l, Z.m] at h2
      have hd : d < M.length := by omega
      have hri := hs.row hc
      have hMl := hs.1
      have hjl : d < M[c].length := by rw [hri]; omega
      refine RO.nil ?_
      refine Runs.condT rfl ?_
      refine Runs.skip ?_
      refine thenQ_normal ?_
      refine Runs.has [(1, .ref 0 0), (3, .d (.int _ _)), (4, .d (.bool _)), (5, .d (.int _ _))] ⟨rfl, rfl, rfl, rfl, trivial⟩ ?_
      refine Runs.seq ?_
      refine Runs.block ?_
      refine Runs.region ?_
      refine RO.opv (v' := .d (.bool _)) (opv_move rfl) rfl ?_
      refine RO.opc (opv_move rfl) (fun h3 => ?_) (fun h3 => ?_)
      · try simp only [Z.a, Z.b, Z.c, Z.d, Z.e, Z.f, Z.g, Z.h, Z.i, Z.j, Z.k, Z.l, Z.m] at h3
        have r1 := h3
        refine RO.opgv (v' := .ref 0 0) rfl (opv_field_ref rfl rfl) rfl ?_
        refine RO.opgv (v' := .d (.list (rowsD _))) rfl (opv_load_ref rfl rfl rfl) rfl ?_
        refine RO.opgv (v' := .d (.int _ _)) rfl (opv_move rfl) rfl ?_
        refine RO.opgv (v' := .d (.ptr _)) rfl (opv_index_rows rfl rfl (Int.natCast_nonneg _) (by exact hc)) rfl ?_
        refine RO.opgv (v' := .d (.list (bools _))) rfl (opv_load_ptr rfl rfl) rfl ?_
        refine RO.opgv (v' := .d (.int _ _)) rfl (opv_move rfl) rfl ?_
        refine RO.opgv (v' := .d (.ptr _)) rfl (opv_index_bools rfl rfl (Int.natCast_nonneg _) (by exact hjl)) rfl ?_
        refine RO.opgv (v' := .d (.bool _)) rfl (opv_load_ptr rfl rfl) rfl ?_
        refine RO.opv (v' := .d (.bool _)) (opv_pick rfl rfl) rfl ?_
        refine RO.opv (v' := .d (.bool _)) (opv_assign rfl) rfl ?_
        refine RO.nil ?_
        refine blockQ_normal ?_
        refine thenQ_normal ?_
        refine Runs.has [(1, .ref 0 0), (3, .d (.int _ _)), (4, .d (.bool _)), (5, .d (.int _ _))] ⟨rfl, rfl, rfl, rfl, trivial⟩ ?_
        refine Runs.region ?_
        refine RO.opv (v' := .d (.int _ _)) (opv_move rfl) rfl ?_
        refine RO.opv (v' := .d (.int _ _)) (opv_bin rfl rfl rfl) rfl ?_
        refine RO.opv (v' := .d (.int _ _)) (opv_assign rfl) rfl ?_
        refine RO.nil ?_
        refine thenQ_normal ?_
        refine ⟨d + 1, 1, (by rw [hK]; exact Nat.le_of_ble_eq_true rfl), ⟨rfl, rfl, trivial⟩, ⟨?_, ?_, trivial⟩, rfl, ?_, ?_⟩
        · refine bool_eq ?_; rw [allC_succ]; first | (rw [r1, gt_eq hc hjl]; rfl) | (rw [r1]; rfl)
        · refine int_eq ?_; rw [wrap64 (by omega) (by omega)]; omega
        · omega
        · omega
      · try simp only [Z.a, Z.b, Z.c, Z.d, Z.e, Z.f, Z.g, Z.h, Z.i, Z.j, Z.k, Z.l, Z.m] at h3
        have r1 := h3
        refine RO.off rfl ?_
        refine RO.off rfl ?_
        refine RO.off rfl ?_
        refine RO.off rfl ?_
        refine RO.off rfl ?_
        refine RO.off rfl ?_
        refine RO.off rfl ?_
        refine RO.off rfl ?_
        refine RO.opv (v' := .d (.bool false)) (opv_pick rfl rfl) rfl ?_
        refine RO.opv (v' := .d (.bool false)) (opv_assign rfl) rfl ?_
        refine RO.nil ?_
        refine blockQ_normal ?_
        refine thenQ_normal ?_
        refine Runs.has [(1, .ref 0 0), (3, .d (.int _ _)), (4, .d (.bool false)), (5, .d (.int _ _))] ⟨rfl, rfl, rfl, rfl, trivial⟩ ?_
        refine Runs.region ?_
        refine RO.opv (v' := .d (.int _ _)) (opv_move rfl) rfl ?_
        refine RO.opv (v' := .d (.int _ _)) (opv_bin rfl rfl rfl) rfl ?_
        refine RO.opv (v' := .d (.int _ _)) (opv_assign rfl) rfl ?_
        refine RO.nil ?_
        refine thenQ_normal ?_
        refine ⟨d + 1, 1, (by rw [hK]; exact Nat.le_of_ble_eq_true rfl), ⟨rfl, rfl, trivial⟩, ⟨?_, ?_, trivial⟩, rfl, ?_, ?_⟩
        · refine bool_eq ?_; rw [allC_succ]; first | (rw [r1, gt_eq hc hjl]; rfl) | (rw [r1]; rfl)
        · refine int_eq ?_; rw [wrap64 (by omega) (by omega)]; omega
        · omega
        · omega
    · try simp only [Z.a, Z.b, Z.c, Z.d, Z.e, Z.f, Z.g, Z.h, Z.i, Z.j, Z.k, Z.l, Z.m] at h2
      have hd : d = M.length := by omega
      refine RO.nil ?_
      refine Runs.condF rfl ?_
      refine Runs.exit ?_
      refine thenQ_exit ?_
      refine thenQ_exit ?_
      refine blockQ_here ?_
      refine thenQ_normal ?_
      refine Runs.has [(1, .ref 0 0), (3, .d (.int _ _)), (4, .d (.bool _))] ⟨rfl, rfl, rfl, trivial⟩ ?_
      refine Runs.rseq ?_
      refine RO.opc (opv_move rfl) (fun h4 => ?_) (fun h4 => ?_)
      · try simp only [Z.a, Z.b, Z.c, Z.d, Z.e, Z.f, Z.g, Z.h, Z.i, Z.j, Z.k, Z.l, Z.m] at h4
        have hf := h4
        refine RO.nil ?_
        refine Runs.condT rfl ?_
        refine Runs.has [(1, .ref 0 0), (3, .d (.int _ _))] ⟨rfl, rfl, trivial⟩ ?_
        refine Runs.rseq ?_
        refine RO.opv (v' := .d (.int _ _)) (opv_move rfl) rfl ?_
        refine RO.opv (v' := .d (.int _ _)) (opv_assign rfl) rfl ?_
        refine RO.nil ?_
        refine Runs.ret ?_
        refine blockQ_ret ?_
        refine thenQ_ret ?_
        refine thenQ_ret ?_
        refine blockQ_ret ?_
        refine thenQ_ret ?_
        refine EndQ.tmp (.inr rfl) rfl rfl 0 (by exact Nat.le_refl _) (by exact Nat.zero_le _) trivial ⟨?_, rfl⟩
        first
          | (refine int_eq ?_; exact (foundI_yes hc (by rw [← hd]; exact hf) hc0.2).symm)
          | (refine int_eq ?_; refine (foundI_no fun j hj => hc0.2 j (by omega)).symm)
      · try simp only [Z.a, Z.b, Z.c, Z.d, Z.e, Z.f, Z.g, Z.h, Z.i, Z.j, Z.k, Z.l, Z.m] at h4
        have hf := h4
        refine RO.nil ?_
        refine Runs.condF rfl ?_
        refine Runs.skip ?_
        refine blockQ_normal ?_
        refine thenQ_normal ?_
        refine Runs.has [(1, .ref 0 0), (3, .d (.int _ _))] ⟨rfl, rfl, trivial⟩ ?_
        refine Runs.region ?_
        refine RO.opv (v' := .d (.int _ _)) (opv_move rfl) rfl ?_
        refine RO.opv (v' := .d (.int _ _)) (opv_bin rfl rfl rfl) rfl ?_
        refine RO.opv (v' := .d (.int _ _)) (opv_assign rfl) rfl ?_
        refine RO.nil ?_
        refine thenQ_normal ?_
        refine ⟨c + 1, 1, (by rw [hK]; exact Nat.le_of_ble_eq_true rfl), ⟨rfl, trivial⟩, ⟨?_, trivial⟩, rfl, ?_, ?_⟩
        · refine int_eq ?_; rw [wrap64 (by omega) (by omega)]; omega
        · refine ⟨by omega, fun j h => ?_⟩
          rcases Nat.lt_succ_iff_lt_or_eq.1 h with h' | h'
          · exact hc0.2 j h'
          · subst h'; rw [← hd]; exact hf
        · omega
  · try simp only [Z.a, Z.b, Z.c, Z.d, Z.e, Z.f, Z.g, Z.h, Z.i, Z.j, Z.k, Z.l, Z.m] at h1
    have hc : c = M.length := by omega
    refine RO.nil ?_
    refine Runs.condF rfl ?_
    refine Runs.exit ?_
    refine thenQ_exit ?_
    refine thenQ_exit ?_
    refine blockQ_here ?_
    refine thenQ_normal ?_
    refine Runs.has [] trivial ?_
    refine Runs.rseq ?_
    refine RO.opv (v' := .d (.int _ _)) (opv_assign rfl) rfl ?_
    refine RO.nil ?_
    refine Runs.ret ?_
    refine EndQ.tmp (.inr rfl) rfl rfl 0 (by exact Nat.le_refl _) (by exact Nat.zero_le _) trivial ⟨?_, rfl⟩
    first
      | (refine int_eq ?_; exact (foundI_yes hc (by rw [← hd]; exact hf) hc0.2).symm)
      | (refine int_eq ?_; refine (foundI_no fun j hj => hc0.2 j (by omega)).symm)
theorem ttop_fn (M : List (List Bool)) (n : Nat) (hs : Sq n M) (hn : n ≤ 16) : Fn Try.prog 71 [.d (encR M)] [] (.d (.int .i64 (topR M))) [] := by
  have hl16 : M.length ≤ 16 := by rw [hs.1]; exact hn
  refine Does.run Try.func71 rfl Try.ntmps71 rfl fun K hK => ?_
  refine Runs.rseq ?_
  refine RO.opn (v' := .ref 0 0) (O' := [_]) (opv_box rfl rfl) rfl rfl ?_
  refine RO.opv (v' := .d (.int _ _)) (opv_assign rfl) rfl ?_
  refine RO.nil ?_
  refine Runs.has [(1, .ref 0 0), (2, .d (.int _ _))] ⟨rfl, rfl, trivial⟩ ?_
  refine Runs.seq ?_
  refine Runs.rseq ?_
  refine RO.opv (v' := .d (.int _ _)) (opv_assign rfl) rfl ?_
  refine RO.nil ?_
  refine Runs.block ?_
  refine Runs.loopC (X := Nat) (fun c => c ≤ M.length ∧ ∀ j, j < c → allR M j M.length = false) (fun c => M.length - c) [(1, .ref 0 0)] (fun c => [(3, .d (.int .i64 (c : Nat)))]) [_] (fun c => []) (0) ⟨rfl, trivial⟩ ⟨rfl, trivial⟩ rfl ⟨Nat.zero_le _, fun j h => absurd h (Nat.not_lt_zero _)⟩ fun c hc0 => ?_
  refine Runs.seq ?_
  refine Runs.rseq ?_
  refine RO.opv (v' := .d (.int _ _)) (opv_move rfl) rfl ?_
  refine RO.opv (v' := .ref 0 0) (opv_field_ref rfl rfl) rfl ?_
  refine RO.opv (v' := .d (.list (rowsD _))) (opv_load_ref rfl rfl rfl) rfl ?_
  refine RO.opv (v' := .d (.int _ _)) (opv_len_rows rfl) rfl ?_
  refine RO.opc (opv_bin rfl rfl rfl) (fun h1 => ?_) (fun h1 => ?_)
  · try simp only [Z.a, Z.b, Z.c, Z.d, Z.e, Z.f, Z.g, Z.h, Z.i, Z.j, Z.k, Z.l, Z.m] at h1
    have hc : c < M.length := by omega
    refine RO.nil ?_
    refine Runs.condT rfl ?_
    refine Runs.skip ?_
    refine thenQ_normal ?_
    refine Runs.has [(1, .ref 0 0), (3, .d (.int _ _))] ⟨rfl, rfl, trivial⟩ ?_
    refine Runs.seq ?_
    refine Runs.block ?_
    refine Runs.rseq ?_
    refine RO.opv (v' := .d (.bool true)) (opv_assign rfl) rfl ?_
    refine RO.nil ?_
    refine Runs.seq ?_
    refine Runs.rseq ?_
    refine RO.opv (v' := .d (.int _ _)) (opv_assign rfl) rfl ?_
    refine RO.nil ?_
    refine Runs.block ?_
    refine Runs.loopC (X := Nat) (fun d => d ≤ M.length) (fun d => M.length - d) [(1, .ref 0 0), (3, .d (.int _ _))] (fun d => [(4, .d (.bool (allR M c d))), (5, .d (.int .i64 (d : Nat)))]) [_] (fun d => []) (0) ⟨rfl, rfl, trivial⟩ ⟨rfl, rfl, trivial⟩ rfl (by omega) fun d hd0 => ?_
    refine Runs.seq ?_
    refine Runs.rseq ?_
    refine RO.opv (v' := .d (.int _ _)) (opv_move rfl) rfl ?_
    refine RO.opv (v' := .ref 0 0) (opv_field_ref rfl rfl) rfl ?_
    refine RO.opv (v' := .d (.list (rowsD _))) (opv_load_ref rfl rfl rfl) rfl ?_
    refine RO.opv (v' := .d (.int _ _)) (opv_len_rows rfl) rfl ?_
    refine RO.opc (opv_bin rfl rfl rfl) (fun h2 => ?_) (fun h2 => ?_)
    · try simp only [Z.a, Z.b, Z.c, Z.d, Z.e, Z.f, Z.g, Z.h, Z.i, Z.j, Z.k, Z.l, Z.m] at h2
      have hd : d < M.length := by omega
      have hri := hs.row hd
      have hMl := hs.1
      have hjl : c < M[d].length := by rw [hri]; omega
      refine RO.nil ?_
      refine Runs.condT rfl ?_
      refine Runs.skip ?_
      refine thenQ_normal ?_
      refine Runs.has [(1, .ref 0 0), (3, .d (.int _ _)), (4, .d (.bool _)), (5, .d (.int _ _))] ⟨rfl, rfl, rfl, rfl, trivial⟩ ?_
      refine Runs.seq ?_
      refine Runs.block ?_
      refine Runs.region ?_
      refine RO.opv (v' := .d (.bool _)) (opv_move rfl) rfl ?_
      refine RO.opc (opv_move rfl) (fun h3 => ?_) (fun h3 => ?_)
      · try simp only [Z.a, Z.b, Z.c, Z.d, Z.e, Z.f, Z.g, Z.h, Z.i, Z.j, Z.k, Z.l, Z.m] at h3
        have r1 := h3
        refine RO.opgv (v' := .ref 0 0) rfl (opv_field_ref rfl rfl) rfl ?_
        refine RO.opgv (v' := .d (.list (rowsD _))) rfl (opv_load_ref rfl rfl rfl) rfl ?_
        refine RO.opgv (v' := .d (.int _ _)) rfl (opv_move rfl) rfl ?_
        refine RO.opgv (v' := .d (.ptr _)) rfl (opv_index_rows rfl rfl (Int.natCast_nonneg _) (by exact hd)) rfl ?_
        refine RO.opgv (v' := .d (.list (bools _))) rfl (opv_load_ptr rfl rfl) rfl ?_
        refine RO.opgv (v' := .d (.int _ _)) rfl (opv_move rfl) rfl ?_
        refine RO.opgv (v' := .d (.ptr _)) rfl (opv_index_bools rfl rfl (Int.natCast_nonneg _) (by exact hjl)) rfl ?_
        refine RO.opgv (v' := .d (.bool _)) rfl (opv_load_ptr rfl rfl) rfl ?_
        refine RO.opv (v' := .d (.bool _)) (opv_pick rfl rfl) rfl ?_
        refine RO.opv (v' := .d (.bool _)) (opv_assign rfl) rfl ?_
        refine RO.nil ?_
        refine blockQ_normal ?_
        refine thenQ_normal ?_
        refine Runs.has [(1, .ref 0 0), (3, .d (.int _ _)), (4, .d (.bool _)), (5, .d (.int _ _))] ⟨rfl, rfl, rfl, rfl, trivial⟩ ?_
        refine Runs.region ?_
        refine RO.opv (v' := .d (.int _ _)) (opv_move rfl) rfl ?_
        refine RO.opv (v' := .d (.int _ _)) (opv_bin rfl rfl rfl) rfl ?_
        refine RO.opv (v' := .d (.int _ _)) (opv_assign rfl) rfl ?_
        refine RO.nil ?_
        refine thenQ_normal ?_
        refine ⟨d + 1, 1, (by rw [hK]; exact Nat.le_of_ble_eq_true rfl), ⟨rfl, rfl, trivial⟩, ⟨?_, ?_, trivial⟩, rfl, ?_, ?_⟩
        · refine bool_eq ?_; rw [allR_succ]; first | (rw [r1, gt_eq hd hjl]; rfl) | (rw [r1]; rfl)
        · refine int_eq ?_; rw [wrap64 (by omega) (by omega)]; omega
        · omega
        · omega
      · try simp only [Z.a, Z.b, Z.c, Z.d, Z.e, Z.f, Z.g, Z.h, Z.i, Z.j, Z.k, Z.l, Z.m] at h3
        have r1 := h3
        refine RO.off rfl ?_
        refine RO.off rfl ?_
        refine RO.off rfl ?_
        refine RO.off rfl ?_
        refine RO.off rfl ?_
        refine RO.off rfl ?_
        refine RO.off rfl ?_
        refine RO.off rfl ?_
        refine RO.opv (v' := .d (.bool false)) (opv_pick rfl rfl) rfl ?_
        refine RO.opv (v' := .d (.bool false)) (opv_assign rfl) rfl ?_
        refine RO.nil ?_
        refine blockQ_normal ?_
        refine thenQ_normal ?_
        refine Runs.has [(1, .ref 0 0), (3, .d (.int _ _)), (4, .d (.bool false)), (5, .d (.int _ _))] ⟨rfl, rfl, rfl, rfl, trivial⟩ ?_
        refine Runs.region ?_
        refine RO.opv (v' := .d (.int _ _)) (opv_move rfl) rfl ?_
        refine RO.opv (v' := .d (.int _ _)) (opv_bin rfl rfl rfl) rfl ?_
        refine RO.opv (v' := .d (.int _ _)) (opv_assign rfl) rfl ?_
        refine RO.nil ?_
        refine thenQ_normal ?_
        refine ⟨d + 1, 1, (by rw [hK]; exact Nat.le_of_ble_eq_true rfl), ⟨rfl, rfl, trivial⟩, ⟨?_, ?_, trivial⟩, rfl, ?_, ?_⟩
        · refine bool_eq ?_; rw [allR_succ]; first | (rw [r1, gt_eq hd hjl]; rfl) | (rw [r1]; rfl)
        · refine int_eq ?_; rw [wrap64 (by omega) (by omega)]; omega
        · omega
        · omega
    · try simp only [Z.a, Z.b, Z.c, Z.d, Z.e, Z.f, Z.g, Z.h, Z.i, Z.j, Z.k, Z.l, Z.m] at h2
      have hd : d = M.length := by omega
      refine RO.nil ?_
      refine Runs.condF rfl ?_
      refine Runs.exit ?_
      refine thenQ_exit ?_
      refine thenQ_exit ?_
      refine blockQ_here ?_
      refine thenQ_normal ?_
      refine Runs.has [(1, .ref 0 0), (3, .d (.int _ _)), (4, .d (.bool _))] ⟨rfl, rfl, rfl, trivial⟩ ?_
      refine Runs.rseq ?_
      refine RO.opc (opv_move rfl) (fun h4 => ?_) (fun h4 => ?_)
      · try simp only [Z.a, Z.b, Z.c, Z.d, Z.e, Z.f, Z.g, Z.h, Z.i, Z.j, Z.k, Z.l, Z.m] at h4
        have hf := h4
        refine RO.nil ?_
        refine Runs.condT rfl ?_
        refine Runs.has [(1, .ref 0 0), (3, .d (.int _ _))] ⟨rfl, rfl, trivial⟩ ?_
        refine Runs.rseq ?_
        refine RO.opv (v' := .d (.int _ _)) (opv_move rfl) rfl ?_
        refine RO.opv (v' := .d (.int _ _)) (opv_assign rfl) rfl ?_
        refine RO.nil ?_
        refine Runs.ret ?_
        refine blockQ_ret ?_
        refine thenQ_ret ?_
        refine thenQ_ret ?_
        refine blockQ_ret ?_
        refine thenQ_ret ?_
        refine EndQ.tmp (.inr rfl) rfl rfl 0 (by exact Nat.le_refl _) (by exact Nat.zero_le _) trivial ⟨?_, rfl⟩
        first
          | (refine int_eq ?_; exact (foundI_yes hc (by rw [← hd]; exact hf) hc0.2).symm)
          | (refine int_eq ?_; refine (foundI_no fun j hj => hc0.2 j (by omega)).symm)
      · try simp only [Z.a, Z.b, Z.c, Z.d, Z.e, Z.f, Z.g, Z.h, Z.i, Z.j, Z.k, Z.l, Z.m] at h4
        have hf := h4
        refine RO.nil ?_
        refine Runs.condF rfl ?_
        refine Runs.skip ?_
        refine blockQ_normal ?_
        refine thenQ_normal ?_
        refine Runs.has [(1, .ref 0 0), (3, .d (.int _ _))] ⟨rfl, rfl, trivial⟩ ?_
        refine Runs.region ?_
        refine RO.opv (v' := .d (.int _ _)) (opv_move rfl) rfl ?_
        refine RO.opv (v' := .d (.int _ _)) (opv_bin rfl rfl rfl) rfl ?_
        refine RO.opv (v' := .d (.int _ _)) (opv_assign rfl) rfl ?_
        refine RO.nil ?_
        refine thenQ_normal ?_
        refine ⟨c + 1, 1, (by rw [hK]; exact Nat.le_of_ble_eq_true rfl), ⟨rfl, trivial⟩, ⟨?_, trivial⟩, rfl, ?_, ?_⟩
        · refine int_eq ?_; rw [wrap64 (by omega) (by omega)]; omega
        · refine ⟨by omega, fun j h => ?_⟩
          rcases Nat.lt_succ_iff_lt_or_eq.1 h with h' | h'
          · exact hc0.2 j h'
          · subst h'; rw [← hd]; exact hf
        · omega
  · try simp only [Z.a, Z.b, Z.c, Z.d, Z.e, Z.f, Z.g, Z.h, Z.i, Z.j, Z.k, Z.l, Z.m] at h1
    have hc : c = M.length := by omega
    refine RO.nil ?_
    refine Runs.condF rfl ?_
    refine Runs.exit ?_
    refine thenQ_exit ?_
    refine thenQ_exit ?_
    refine blockQ_here ?_
    refine thenQ_normal ?_
    refine Runs.has [] trivial ?_
    refine Runs.rseq ?_
    refine RO.opv (v' := .d (.int _ _)) (opv_assign rfl) rfl ?_
    refine RO.nil ?_
    refine Runs.ret ?_
    refine EndQ.tmp (.inr rfl) rfl rfl 0 (by exact Nat.le_refl _) (by exact Nat.zero_le _) trivial ⟨?_, rfl⟩
    first
      | (refine int_eq ?_; exact (foundI_yes hc (by rw [← hd]; exact hf) hc0.2).symm)
      | (refine int_eq ?_; refine (foundI_no fun j hj => hc0.2 j (by omega)).symm)
theorem tnew_fn (n : Int) (ps : List (Int × Int)) (hpl : ps.length ≤ 2 ^ 30) : Fn Try.prog 11 [.d (.int .i64 n), .d (.list (encPs ps))] [] (.tup [.d (encR (newR n ps).1), .d (.int .i64 (newR n ps).2)]) [] := by
  refine Does.run Try.func11 rfl Try.ntmps11 rfl fun K hK => ?_
  refine Runs.rseq ?_
  refine RO.opn (v' := .ref 0 0) (O' := [_]) (opv_alloc) rfl rfl ?_
  refine RO.opv (v' := .d (.int _ _)) (opv_assign rfl) rfl ?_
  refine RO.nil ?_
  refine Runs.seq ?_
  refine Runs.rseq ?_
  refine RO.opv (v' := .d (.int _ _)) (opv_move rfl) rfl ?_
  refine RO.opv (v' := .d (.bool _)) (opv_bin rfl rfl rfl) rfl ?_
  refine RO.opc (opv_move rfl) (fun h1 => ?_) (fun h1 => ?_)
  · try simp only [Z.a, Z.b, Z.c, Z.d, Z.e, Z.f, Z.g, Z.h, Z.i, Z.j, Z.k, Z.l, Z.m] at h1
    have hn1 := h1
    refine RO.off rfl ?_
    refine RO.off rfl ?_
    refine RO.opv (v' := .d (.bool true)) (opv_pick rfl rfl) rfl ?_
    refine RO.nil ?_
    refine Runs.condT rfl ?_
    refine Runs.has [(0, .d (.int _ _)), (1, .d (.list (encPs _))), (4, .ref 0 0), (5, .d (.int _ _))] ⟨rfl, rfl, rfl, rfl, trivial⟩ ?_
    refine Runs.rseq ?_
    refine RO.opv (v' := .d (encR _)) (opv_build_rl0 rfl rfl) rfl ?_
    refine RO.op0n (O' := [_]) (opv_store_ref rfl rfl rfl rfl rfl (Nat.le_of_ble_eq_true rfl) rfl) rfl ?_
    refine RO.opv (v' := .d (.int _ _)) (opv_assign rfl) rfl ?_
    refine RO.nil ?_
    refine Runs.ret ?_
    refine thenQ_ret ?_
    refine EndQ.ct (v := .d (encR _)) (v' := .d (.int _ _)) (.inr rfl) rfl rfl rfl (by exact take_rl _) rfl 0 (by exact Nat.le_refl _) (by exact Nat.zero_le _) trivial trivial ⟨?_, rfl⟩
    first
      | (rw [newR_no (by omega)] <;> rfl)
      | (rw [newR_out (by omega) hk (by rw [Bool.eq_false_iff]; intro hh; rw [inR_iff] at hh; omega)] <;> rfl)
      | (rw [newR_bad (by omega) (by omega) hall ha hb (by unfold badR; first | (rw [c1, c2, c3] <;> rfl) | (rw [c4, Bool.or_true] <;> rfl) | (rw [c5, Bool.or_true]))] <;> rfl)
      | (rw [newR_ok (by omega) (by omega) hall (by rw [← ha]; rw [← ha] at ha0; exact ha0.2)] <;> rfl)
  · try simp only [Z.a, Z.b, Z.c, Z.d, Z.e, Z.f, Z.g, Z.h, Z.i, Z.j, Z.k, Z.l, Z.m] at h1
    have hn1 := h1
    refine RO.opgv (v' := .d (.int _ _)) rfl (opv_move rfl) rfl ?_
    refine RO.opgv (v' := .d (.bool _)) rfl (opv_bin rfl rfl rfl) rfl ?_
    refine RO.opc (opv_pick rfl rfl) (fun h2 => ?_) (fun h2 => ?_)
    · try simp only [Z.a, Z.b, Z.c, Z.d, Z.e, Z.f, Z.g, Z.h, Z.i, Z.j, Z.k, Z.l, Z.m] at h2
      have hn2 := h2
      refine RO.nil ?_
      refine Runs.condT rfl ?_
      refine Runs.has [(0, .d (.int _ _)), (1, .d (.list (encPs _))), (4, .ref 0 0), (5, .d (.int _ _))] ⟨rfl, rfl, rfl, rfl, trivial⟩ ?_
      refine Runs.rseq ?_
      refine RO.opv (v' := .d (encR _)) (opv_build_rl0 rfl rfl) rfl ?_
      refine RO.op0n (O' := [_]) (opv_store_ref rfl rfl rfl rfl rfl (Nat.le_of_ble_eq_true rfl) rfl) rfl ?_
      refine RO.opv (v' := .d (.int _ _)) (opv_assign rfl) rfl ?_
      refine RO.nil ?_
      refine Runs.ret ?_
      refine thenQ_ret ?_
      refine EndQ.ct (v := .d (encR _)) (v' := .d (.int _ _)) (.inr rfl) rfl rfl rfl (by exact take_rl _) rfl 0 (by exact Nat.le_refl _) (by exact Nat.zero_le _) trivial trivial ⟨?_, rfl⟩
      first
        | (rw [newR_no (by omega)] <;> rfl)
        | (rw [newR_out (by omega) hk (by rw [Bool.eq_false_iff]; intro hh; rw [inR_iff] at hh; omega)] <;> rfl)
        | (rw [newR_bad (by omega) (by omega) hall ha hb (by unfold badR; first | (rw [c1, c2, c3] <;> rfl) | (rw [c4, Bool.or_true] <;> rfl) | (rw [c5, Bool.or_true]))] <;> rfl)
        | (rw [newR_ok (by omega) (by omega) hall (by rw [← ha]; rw [← ha] at ha0; exact ha0.2)] <;> rfl)
    · try simp only [Z.a, Z.b, Z.c, Z.d, Z.e, Z.f, Z.g, Z.h, Z.i, Z.j, Z.k, Z.l, Z.m] at h2
      have hn2 := h2
      obtain ⟨m, rfl⟩ : ∃ m : Nat, n = (m : Int) := ⟨n.toNat, by omega⟩
      refine RO.nil ?_
      refine Runs.condF rfl ?_
      refine Runs.skip ?_
      refine thenQ_normal ?_
      refine Runs.has [(0, .d (.int _ _)), (1, .d (.list (encPs _))), (4, .ref 0 0), (5, .d (.int _ _))] ⟨rfl, rfl, rfl, rfl, trivial⟩ ?_
      refine Runs.seq ?_
      refine Runs.rseq ?_
      refine RO.opv (v' := .d (.int _ _)) (opv_assign rfl) rfl ?_
      refine RO.nil ?_
      refine Runs.block ?_
      refine Runs.loopC (X := Nat) (fun i => i ≤ ps.length ∧ ∀ p ∈ ps.take i, inR (m : Nat) p = true) (fun i => ps.length - i) [(0, .d (.int _ _)), (1, .d (.list (encPs _))), (4, .ref 0 0)] (fun i => [(6, .d (.int .i64 (i : Nat)))]) [_] (fun i => []) (0) ⟨rfl, rfl, rfl, trivial⟩ ⟨rfl, trivial⟩ rfl ⟨Nat.zero_le _, fun p h => by simp at h⟩ fun i hi => ?_
      refine Runs.seq ?_
      refine Runs.rseq ?_
      refine RO.opv (v' := .d (.int _ _)) (opv_move rfl) rfl ?_
      refine RO.opv (v' := .d (.list (encPs _))) (opv_move rfl) rfl ?_
      refine RO.opv (v' := .d (.int _ _)) (opv_len_pairs rfl) rfl ?_
      refine RO.opc (opv_bin rfl rfl rfl) (fun h3 => ?_) (fun h3 => ?_)
      · try simp only [Z.a, Z.b, Z.c, Z.d, Z.e, Z.f, Z.g, Z.h, Z.i, Z.j, Z.k, Z.l, Z.m] at h3
        have hk : i < ps.length := by omega
        refine RO.nil ?_
        refine Runs.condT rfl ?_
        refine Runs.skip ?_
        refine thenQ_normal ?_
        refine Runs.has [(0, .d (.int _ _)), (1, .d (.list (encPs _))), (4, .ref 0 0), (6, .d (.int _ _))] ⟨rfl, rfl, rfl, rfl, trivial⟩ ?_
        refine Runs.seq ?_
        refine Runs.block ?_
        refine Runs.rseq ?_
        refine RO.opv (v' := .d (.list (encPs _))) (opv_move rfl) rfl ?_
        refine RO.opv (v' := .d (.int _ _)) (opv_move rfl) rfl ?_
        refine RO.opv (v' := .d (.ptr _)) (opv_index_pairs rfl rfl hk) rfl ?_
        refine RO.opv (v' := .d (.agg _)) (opv_load_ptr rfl rfl) rfl ?_
        refine RO.opn (v' := .ref 1 0) (O' := [_, _]) (opv_alloc) rfl rfl ?_
        refine RO.op0n (O' := [_, _]) (opv_store_ref rfl rfl rfl rfl rfl (Nat.le_of_ble_eq_true rfl) rfl) rfl ?_
        refine RO.nil ?_
        refine Runs.has [(0, .d (.int _ _)), (1, .d (.list (encPs _))), (4, .ref 0 0), (6, .d (.int _ _)), (7, .ref 1 0)] ⟨rfl, rfl, rfl, rfl, rfl, trivial⟩ ?_
        refine Runs.rseq ?_
        refine RO.opv (v' := .ref 1 0) (opv_index_aref (i := 0) rfl rfl rfl (by decide) (by decide)) rfl ?_
        refine RO.opv (v' := .d (.int _ _)) (opv_load_ref rfl rfl rfl) rfl ?_
        refine RO.opv (v' := .d (.bool _)) (opv_bin rfl rfl rfl) rfl ?_
        refine RO.opc (opv_move rfl) (fun h4 => ?_) (fun h4 => ?_)
        · try simp only [Z.a, Z.b, Z.c, Z.d, Z.e, Z.f, Z.g, Z.h, Z.i, Z.j, Z.k, Z.l, Z.m] at h4
          have q1 := h4
          refine RO.off rfl ?_
          refine RO.off rfl ?_
          refine RO.off rfl ?_
          refine RO.off rfl ?_
          refine RO.opv (v' := .d (.bool true)) (opv_pick rfl rfl) rfl ?_
          refine RO.opv (v' := .d (.bool true)) (opv_move rfl) rfl ?_
          refine RO.off rfl ?_
          refine RO.off rfl ?_
          refine RO.off rfl ?_
          refine RO.opv (v' := .d (.bool true)) (opv_pick rfl rfl) rfl ?_
          refine RO.opv (v' := .d (.bool true)) (opv_move rfl) rfl ?_
          refine RO.off rfl ?_
          refine RO.off rfl ?_
          refine RO.off rfl ?_
          refine RO.off rfl ?_
          refine RO.opv (v' := .d (.bool true)) (opv_pick rfl rfl) rfl ?_
          refine RO.nil ?_
          refine Runs.condT rfl ?_
          refine Runs.has [(0, .d (.int _ _)), (1, .d (.list (encPs _))), (4, .ref 0 0), (6, .d (.int _ _))] ⟨rfl, rfl, rfl, rfl, trivial⟩ ?_
          refine Runs.rseq ?_
          refine RO.opv (v' := .d (encR _)) (opv_build_rl0 rfl rfl) rfl ?_
          refine RO.op0n (O' := [_, _]) (opv_store_ref rfl rfl rfl rfl rfl (Nat.le_of_ble_eq_true rfl) rfl) rfl ?_
          refine RO.opv (v' := .d (.int _ _)) (opv_assign rfl) rfl ?_
          refine RO.nil ?_
          refine Runs.ret ?_
          refine blockQ_ret ?_
          refine thenQ_ret ?_
          refine thenQ_ret ?_
          refine blockQ_ret ?_
          refine thenQ_ret ?_
          refine EndQ.ct (v := .d (encR _)) (v' := .d (.int _ _)) (.inr rfl) rfl rfl rfl (by exact take_rl _) rfl 0 (by exact Nat.le_refl _) (by exact Nat.zero_le _) trivial trivial ⟨?_, rfl⟩
          first
            | (rw [newR_no (by omega)] <;> rfl)
            | (rw [newR_out (by omega) hk (by rw [Bool.eq_false_iff]; intro hh; rw [inR_iff] at hh; omega)] <;> rfl)
            | (rw [newR_bad (by omega) (by omega) hall ha hb (by unfold badR; first | (rw [c1, c2, c3] <;> rfl) | (rw [c4, Bool.or_true] <;> rfl) | (rw [c5, Bool.or_true]))] <;> rfl)
            | (rw [newR_ok (by omega) (by omega) hall (by rw [← ha]; rw [← ha] at ha0; exact ha0.2)] <;> rfl)
        · try simp only [Z.a, Z.b, Z.c, Z.d, Z.e, Z.f, Z.g, Z.h, Z.i, Z.j, Z.k, Z.l, Z.m] at h4
          have q1 := h4
          refine RO.opgv (v' := .ref 1 0) rfl (opv_index_aref (i := 0) rfl rfl rfl (by decide) (by decide)) rfl ?_
          refine RO.opgv (v' := .d (.int _ _)) rfl (opv_load_ref rfl rfl rfl) rfl ?_
          refine RO.opgv (v' := .d (.int _ _)) rfl (opv_move rfl) rfl ?_
          refine RO.opgv (v' := .d (.bool _)) rfl (opv_bin rfl rfl rfl) rfl ?_
          refine RO.opv (v' := .d (.bool _)) (opv_pick rfl rfl) rfl ?_
          refine RO.opc (opv_move rfl) (fun h5 => ?_) (fun h5 => ?_)
          · try simp only [Z.a, Z.b, Z.c, Z.d, Z.e, Z.f, Z.g, Z.h, Z.i, Z.j, Z.k, Z.l, Z.m] at h5
            have q2 := h5
            refine RO.off rfl ?_
            refine RO.off rfl ?_
            refine RO.off rfl ?_
            refine RO.opv (v' := .d (.bool true)) (opv_pick rfl rfl) rfl ?_
            refine RO.opv (v' := .d (.bool true)) (opv_move rfl) rfl ?_
            refine RO.off rfl ?_
            refine RO.off rfl ?_
            refine RO.off rfl ?_
            refine RO.off rfl ?_
            refine RO.opv (v' := .d (.bool true)) (opv_pick rfl rfl) rfl ?_
            refine RO.nil ?_
            refine Runs.condT rfl ?_
            refine Runs.has [(0, .d (.int _ _)), (1, .d (.list (encPs _))), (4, .ref 0 0), (6, .d (.int _ _))] ⟨rfl, rfl, rfl, rfl, trivial⟩ ?_
            refine Runs.rseq ?_
            refine RO.opv (v' := .d (encR _)) (opv_build_rl0 rfl rfl) rfl ?_
            refine RO.op0n (O' := [_, _]) (opv_store_ref rfl rfl rfl rfl rfl (Nat.le_of_ble_eq_true rfl) rfl) rfl ?_
            refine RO.opv (v' := .d (.int _ _)) (opv_assign rfl) rfl ?_
            refine RO.nil ?_
            refine Runs.ret ?_
            refine blockQ_ret ?_
            refine thenQ_ret ?_
            refine thenQ_ret ?_
            refine blockQ_ret ?_
            refine thenQ_ret ?_
            refine EndQ.ct (v := .d (encR _)) (v' := .d (.int _ _)) (.inr rfl) rfl rfl rfl (by exact take_rl _) rfl 0 (by exact Nat.le_refl _) (by exact Nat.zero_le _) trivial trivial ⟨?_, rfl⟩
            first
              | (rw [newR_no (by omega)] <;> rfl)
              | (rw [newR_out (by omega) hk (by rw [Bool.eq_false_iff]; intro hh; rw [inR_iff] at hh; omega)] <;> rfl)
              | (rw [newR_bad (by omega) (by omega) hall ha hb (by unfold badR; first | (rw [c1, c2, c3] <;> rfl) | (rw [c4, Bool.or_true] <;> rfl) | (rw [c5, Bool.or_true]))] <;> rfl)
              | (rw [newR_ok (by omega) (by omega) hall (by rw [← ha]; rw [← ha] at ha0; exact ha0.2)] <;> rfl)
          · try simp only [Z.a, Z.b, Z.c, Z.d, Z.e, Z.f, Z.g, Z.h, Z.i, Z.j, Z.k, Z.l, Z.m] at h5
            have q2 := h5
            refine RO.opgv (v' := .ref 1 1) rfl (opv_index_aref (i := 1) rfl rfl rfl (by decide) (by decide)) rfl ?_
            refine RO.opgv (v' := .d (.int _ _)) rfl (opv_load_ref rfl rfl rfl) rfl ?_
            refine RO.opgv (v' := .d (.bool _)) rfl (opv_bin rfl rfl rfl) rfl ?_
            refine RO.opv (v' := .d (.bool _)) (opv_pick rfl rfl) rfl ?_
            refine RO.opc (opv_move rfl) (fun h6 => ?_) (fun h6 => ?_)
            · try simp only [Z.a, Z.b, Z.c, Z.d, Z.e, Z.f, Z.g, Z.h, Z.i, Z.j, Z.k, Z.l, Z.m] at h6
              have q3 := h6
              refine RO.off rfl ?_
              refine RO.off rfl ?_
              refine RO.off rfl ?_
              refine RO.off rfl ?_
              refine RO.opv (v' := .d (.bool true)) (opv_pick rfl rfl) rfl ?_
              refine RO.nil ?_
              refine Runs.condT rfl ?_
              refine Runs.has [(0, .d (.int _ _)), (1, .d (.list (encPs _))), (4, .ref 0 0), (6, .d (.int _ _))] ⟨rfl, rfl, rfl, rfl, trivial⟩ ?_
              refine Runs.rseq ?_
              refine RO.opv (v' := .d (encR _)) (opv_build_rl0 rfl rfl) rfl ?_
              refine RO.op0n (O' := [_, _]) (opv_store_ref rfl rfl rfl rfl rfl (Nat.le_of_ble_eq_true rfl) rfl) rfl ?_
              refine RO.opv (v' := .d (.int _ _)) (opv_assign rfl) rfl ?_
              refine RO.nil ?_
              refine Runs.ret ?_
              refine blockQ_ret ?_
              refine thenQ_ret ?_
              refine thenQ_ret ?_
              refine blockQ_ret ?_
              refine thenQ_ret ?_
              refine EndQ.ct (v := .d (encR _)) (v' := .d (.int _ _)) (.inr rfl) rfl rfl rfl (by exact take_rl _) rfl 0 (by exact Nat.le_refl _) (by exact Nat.zero_le _) trivial trivial ⟨?_, rfl⟩
              first
                | (rw [newR_no (by omega)] <;> rfl)
                | (rw [newR_out (by omega) hk (by rw [Bool.eq_false_iff]; intro hh; rw [inR_iff] at hh; omega)] <;> rfl)
                | (rw [newR_bad (by omega) (by omega) hall ha hb (by unfold badR; first | (rw [c1, c2, c3] <;> rfl) | (rw [c4, Bool.or_true] <;> rfl) | (rw [c5, Bool.or_true]))] <;> rfl)
                | (rw [newR_ok (by omega) (by omega) hall (by rw [← ha]; rw [← ha] at ha0; exact ha0.2)] <;> rfl)
            · try simp only [Z.a, Z.b, Z.c, Z.d, Z.e, Z.f, Z.g, Z.h, Z.i, Z.j, Z.k, Z.l, Z.m] at h6
              have q3 := h6
              refine RO.opgv (v' := .ref 1 1) rfl (opv_index_aref (i := 1) rfl rfl rfl (by decide) (by decide)) rfl ?_
              refine RO.opgv (v' := .d (.int _ _)) rfl (opv_load_ref rfl rfl rfl) rfl ?_
              refine RO.opgv (v' := .d (.int _ _)) rfl (opv_move rfl) rfl ?_
              refine RO.opgv (v' := .d (.bool _)) rfl (opv_bin rfl rfl rfl) rfl ?_
              refine RO.opc (opv_pick rfl rfl) (fun h7 => ?_) (fun h7 => ?_)
              · try simp only [Z.a, Z.b, Z.c, Z.d, Z.e, Z.f, Z.g, Z.h, Z.i, Z.j, Z.k, Z.l, Z.m] at h7
                have q4 := h7
                refine RO.nil ?_
                refine Runs.condT rfl ?_
                refine Runs.has [(0, .d (.int _ _)), (1, .d (.list (encPs _))), (4, .ref 0 0), (6, .d (.int _ _))] ⟨rfl, rfl, rfl, rfl, trivial⟩ ?_
                refine Runs.rseq ?_
                refine RO.opv (v' := .d (encR _)) (opv_build_rl0 rfl rfl) rfl ?_
                refine RO.op0n (O' := [_, _]) (opv_store_ref rfl rfl rfl rfl rfl (Nat.le_of_ble_eq_true rfl) rfl) rfl ?_
                refine RO.opv (v' := .d (.int _ _)) (opv_assign rfl) rfl ?_
                refine RO.nil ?_
                refine Runs.ret ?_
                refine blockQ_ret ?_
                refine thenQ_ret ?_
                refine thenQ_ret ?_
                refine blockQ_ret ?_
                refine thenQ_ret ?_
                refine EndQ.ct (v := .d (encR _)) (v' := .d (.int _ _)) (.inr rfl) rfl rfl rfl (by exact take_rl _) rfl 0 (by exact Nat.le_refl _) (by exact Nat.zero_le _) trivial trivial ⟨?_, rfl⟩
                first
                  | (rw [newR_no (by omega)] <;> rfl)
                  | (rw [newR_out (by omega) hk (by rw [Bool.eq_false_iff]; intro hh; rw [inR_iff] at hh; omega)] <;> rfl)
                  | (rw [newR_bad (by omega) (by omega) hall ha hb (by unfold badR; first | (rw [c1, c2, c3] <;> rfl) | (rw [c4, Bool.or_true] <;> rfl) | (rw [c5, Bool.or_true]))] <;> rfl)
                  | (rw [newR_ok (by omega) (by omega) hall (by rw [← ha]; rw [← ha] at ha0; exact ha0.2)] <;> rfl)
              · try simp only [Z.a, Z.b, Z.c, Z.d, Z.e, Z.f, Z.g, Z.h, Z.i, Z.j, Z.k, Z.l, Z.m] at h7
                have q4 := h7
                refine RO.nil ?_
                refine Runs.condF rfl ?_
                refine Runs.skip ?_
                refine blockQ_normal ?_
                refine thenQ_normal ?_
                refine Runs.has [(0, .d (.int _ _)), (1, .d (.list (encPs _))), (4, .ref 0 0), (6, .d (.int _ _))] ⟨rfl, rfl, rfl, rfl, trivial⟩ ?_
                refine Runs.region ?_
                refine RO.opv (v' := .d (.int _ _)) (opv_move rfl) rfl ?_
                refine RO.opv (v' := .d (.int _ _)) (opv_bin rfl rfl rfl) rfl ?_
                refine RO.opv (v' := .d (.int _ _)) (opv_assign rfl) rfl ?_
                refine RO.nil ?_
                refine thenQ_normal ?_
                refine ⟨i + 1, 1, (by rw [hK]; exact Nat.le_of_ble_eq_true rfl), ⟨rfl, rfl, rfl, trivial⟩, ⟨?_, trivial⟩, rfl, ?_, ?_⟩
                · refine int_eq ?_; rw [wrap64 (by omega) (by omega)]; omega
                · refine ⟨by omega, fun p hp => ?_⟩
                  rw [List.take_succ_eq_append_getElem hk] at hp
                  rcases List.mem_append.1 hp with hp | hp
                  · exact hi.2 p hp
                  · simp at hp; subst hp; rw [inR_iff]; omega
                · omega
      · try simp only [Z.a, Z.b, Z.c, Z.d, Z.e, Z.f, Z.g, Z.h, Z.i, Z.j, Z.k, Z.l, Z.m] at h3
        have hk : i = ps.length := by omega
        have hall : ∀ p ∈ ps, inR (m : Nat) p = true := by have := hi.2; rwa [hk, List.take_length] at this
        have hs : Sq m (tabF m ps) := (Sq.rows m ps).tabC m
        have hml := hs.1
        refine RO.nil ?_
        refine Runs.condF rfl ?_
        refine Runs.exit ?_
        refine thenQ_exit ?_
        refine thenQ_exit ?_
        refine blockQ_here ?_
        refine thenQ_normal ?_
        refine Runs.has [(0, .d (.int _ _)), (1, .d (.list (encPs _))), (4, .ref 0 0)] ⟨rfl, rfl, rfl, trivial⟩ ?_
        refine Runs.rseq ?_
        refine RO.opv (v' := .d (.int _ _)) (opv_move rfl) rfl ?_
        refine RO.opv (v' := .d (.list (encPs _))) (opv_move rfl) rfl ?_
        refine RO.opv (v' := .d (.list (rowsD _))) (opv_callF (table_fn m (by omega) (by omega) ps hpl (fun p hp => by have := hall p hp; rw [inR_iff] at this; exact this)) rfl rfl rfl trivial) rfl ?_
        refine RO.opv (v' := .d (encR _)) (opv_build rfl) rfl ?_
        refine RO.opn (v' := .ref 1 0) (O' := [_, _]) (opv_alloc) rfl rfl ?_
        refine RO.op0n (O' := [_, _]) (opv_store_ref rfl rfl rfl rfl rfl (Nat.le_of_ble_eq_true rfl) rfl) rfl ?_
        refine RO.nil ?_
        refine Runs.has [(0, .d (.int _ _)), (4, .ref 0 0), (8, .ref 1 0)] ⟨rfl, rfl, rfl, trivial⟩ ?_
        refine Runs.seq ?_
        refine Runs.rseq ?_
        refine RO.opv (v' := .d (.int _ _)) (opv_assign rfl) rfl ?_
        refine RO.nil ?_
        refine Runs.block ?_
        refine Runs.loopC (X := Nat) (fun a => a ≤ m ∧ ∀ x y, x < a → y < m → badR (tabF m ps) x y = false) (fun a => m - a) [(0, .d (.int _ _)), (4, .ref 0 0), (8, .ref 1 0)] (fun a => [(9, .d (.int .i64 (a : Nat)))]) [_, _] (fun a => []) (0) ⟨rfl, rfl, rfl, trivial⟩ ⟨rfl, trivial⟩ rfl ⟨Nat.zero_le _, fun x y h => absurd h (Nat.not_lt_zero _)⟩ fun a ha0 => ?_
        refine Runs.seq ?_
        refine Runs.rseq ?_
        refine RO.opv (v' := .d (.int _ _)) (opv_move rfl) rfl ?_
        refine RO.opv (v' := .d (.int _ _)) (opv_move rfl) rfl ?_
        refine RO.opc (opv_bin rfl rfl rfl) (fun h8 => ?_) (fun h8 => ?_)
        · try simp only [Z.a, Z.b, Z.c, Z.d, Z.e, Z.f, Z.g, Z.h, Z.i, Z.j, Z.k, Z.l, Z.m] at h8
          have ha : a < m := by omega
          refine RO.nil ?_
          refine Runs.condT rfl ?_
          refine Runs.skip ?_
          refine thenQ_normal ?_
          refine Runs.has [(0, .d (.int _ _)), (4, .ref 0 0), (8, .ref 1 0), (9, .d (.int _ _))] ⟨rfl, rfl, rfl, rfl, trivial⟩ ?_
          refine Runs.seq ?_
          refine Runs.block ?_
          refine Runs.rseq ?_
          refine RO.opv (v' := .d (.int _ _)) (opv_assign rfl) rfl ?_
          refine RO.nil ?_
          refine Runs.block ?_
          refine Runs.loopC (X := Nat) (fun b => b ≤ m ∧ ∀ y, y < b → badR (tabF m ps) a y = false) (fun b => m - b) [(0, .d (.int _ _)), (4, .ref 0 0), (8, .ref 1 0), (9, .d (.int _ _))] (fun b => [(10, .d (.int .i64 (b : Nat)))]) [_, _] (fun b => []) (0) ⟨rfl, rfl, rfl, rfl, trivial⟩ ⟨rfl, trivial⟩ rfl ⟨Nat.zero_le _, fun y h => absurd h (Nat.not_lt_zero _)⟩ fun b hb0 => ?_
          refine Runs.seq ?_
          refine Runs.rseq ?_
          refine RO.opv (v' := .d (.int _ _)) (opv_move rfl) rfl ?_
          refine RO.opv (v' := .d (.int _ _)) (opv_move rfl) rfl ?_
          refine RO.opc (opv_bin rfl rfl rfl) (fun h9 => ?_) (fun h9 => ?_)
          · try simp only [Z.a, Z.b, Z.c, Z.d, Z.e, Z.f, Z.g, Z.h, Z.i, Z.j, Z.k, Z.l, Z.m] at h9
            have hb : b < m := by omega
            have hi2 : a < (tabF m ps).length := by omega
            have hj2 : b < (tabF m ps).length := by omega
            have hri := hs.row hi2
            have hrj := hs.row hj2
            have hij : b < (tabF m ps)[a].length := by rw [hri]; exact hb
            have hji : a < (tabF m ps)[b].length := by rw [hrj]; exact ha
            refine RO.nil ?_
            refine Runs.condT rfl ?_
            refine Runs.skip ?_
            refine thenQ_normal ?_
            refine Runs.has [(0, .d (.int _ _)), (4, .ref 0 0), (8, .ref 1 0), (9, .d (.int _ _)), (10, .d (.int _ _))] ⟨rfl, rfl, rfl, rfl, rfl, trivial⟩ ?_
            refine Runs.seq ?_
            refine Runs.block ?_
            refine Runs.rseq ?_
            refine RO.opv (v' := .d (.int _ _)) (opv_move rfl) rfl ?_
            refine RO.opv (v' := .d (.int _ _)) (opv_move rfl) rfl ?_
            refine RO.opv (v' := .d (.bool _)) (opv_bin rfl rfl rfl) rfl ?_
            refine RO.opc (opv_move rfl) (fun h10 => ?_) (fun h10 => ?_)
            · try simp only [Z.a, Z.b, Z.c, Z.d, Z.e, Z.f, Z.g, Z.h, Z.i, Z.j, Z.k, Z.l, Z.m] at h10
              have c1 : (a != b) = true := by simp; omega
              refine RO.opgv (v' := .ref 1 0) rfl (opv_field_ref rfl rfl) rfl ?_
              refine RO.opgv (v' := .d (.list (rowsD _))) rfl (opv_load_ref rfl rfl rfl) rfl ?_
              refine RO.opgv (v' := .d (.int _ _)) rfl (opv_move rfl) rfl ?_
              refine RO.opgv (v' := .d (.ptr _)) rfl (opv_index_rows rfl rfl (Int.natCast_nonneg _) (by exact hi2)) rfl ?_
              refine RO.opgv (v' := .d (.list (bools _))) rfl (opv_load_ptr rfl rfl) rfl ?_
              refine RO.opgv (v' := .d (.int _ _)) rfl (opv_move rfl) rfl ?_
              refine RO.opgv (v' := .d (.ptr _)) rfl (opv_index_bools rfl rfl (Int.natCast_nonneg _) (by exact hij)) rfl ?_
              refine RO.opgv (v' := .d (.bool _)) rfl (opv_load_ptr rfl rfl) rfl ?_
              refine RO.opv (v' := .d (.bool _)) (opv_pick rfl rfl) rfl ?_
              refine RO.opc (opv_move rfl) (fun h11 => ?_) (fun h11 => ?_)
              · try simp only [Z.a, Z.b, Z.c, Z.d, Z.e, Z.f, Z.g, Z.h, Z.i, Z.j, Z.k, Z.l, Z.m] at h11
                have c2 : gt (tabF m ps) a b = _ := (gt_eq hi2 hij).trans h11
                refine RO.opgv (v' := .ref 1 0) rfl (opv_field_ref rfl rfl) rfl ?_
                refine RO.opgv (v' := .d (.list (rowsD _))) rfl (opv_load_ref rfl rfl rfl) rfl ?_
                refine RO.opgv (v' := .d (.int _ _)) rfl (opv_move rfl) rfl ?_
                refine RO.opgv (v' := .d (.ptr _)) rfl (opv_index_rows rfl rfl (Int.natCast_nonneg _) (by exact hj2)) rfl ?_
                refine RO.opgv (v' := .d (.list (bools _))) rfl (opv_load_ptr rfl rfl) rfl ?_
                refine RO.opgv (v' := .d (.int _ _)) rfl (opv_move rfl) rfl ?_
                refine RO.opgv (v' := .d (.ptr _)) rfl (opv_index_bools rfl rfl (Int.natCast_nonneg _) (by exact hji)) rfl ?_
                refine RO.opgv (v' := .d (.bool _)) rfl (opv_load_ptr rfl rfl) rfl ?_
                refine RO.opv (v' := .d (.bool _)) (opv_pick rfl rfl) rfl ?_
                refine RO.opc (opv_move rfl) (fun h12 => ?_) (fun h12 => ?_)
                · try simp only [Z.a, Z.b, Z.c, Z.d, Z.e, Z.f, Z.g, Z.h, Z.i, Z.j, Z.k, Z.l, Z.m] at h12
                  have c3 : gt (tabF m ps) b a = _ := (gt_eq hj2 hji).trans h12
                  refine RO.off rfl ?_
                  refine RO.off rfl ?_
                  refine RO.off rfl ?_
                  refine RO.off rfl ?_
                  refine RO.off rfl ?_
                  refine RO.opv (v' := .d (.bool true)) (opv_pick rfl rfl) rfl ?_
                  refine RO.opv (v' := .d (.bool true)) (opv_move rfl) rfl ?_
                  refine RO.off rfl ?_
                  refine RO.off rfl ?_
                  refine RO.off rfl ?_
                  refine RO.off rfl ?_
                  refine RO.off rfl ?_
                  refine RO.opv (v' := .d (.bool true)) (opv_pick rfl rfl) rfl ?_
                  refine RO.nil ?_
                  refine Runs.condT rfl ?_
                  refine Runs.has [(0, .d (.int _ _)), (4, .ref 0 0), (8, .ref 1 0), (9, .d (.int _ _)), (10, .d (.int _ _))] ⟨rfl, rfl, rfl, rfl, rfl, trivial⟩ ?_
                  refine Runs.rseq ?_
                  refine RO.opv (v' := .d (encR _)) (opv_build_rl0 rfl rfl) rfl ?_
                  refine RO.op0n (O' := [_, _]) (opv_store_ref rfl rfl rfl rfl rfl (Nat.le_of_ble_eq_true rfl) rfl) rfl ?_
                  refine RO.opv (v' := .d (.int _ _)) (opv_assign rfl) rfl ?_
                  refine RO.nil ?_
                  refine Runs.ret ?_
                  refine blockQ_ret ?_
                  refine thenQ_ret ?_
                  refine thenQ_ret ?_
                  refine blockQ_ret ?_
                  refine blockQ_ret ?_
                  refine thenQ_ret ?_
                  refine thenQ_ret ?_
                  refine blockQ_ret ?_
                  refine thenQ_ret ?_
                  refine EndQ.ct (v := .d (encR _)) (v' := .d (.int _ _)) (.inr rfl) rfl rfl rfl (by exact take_rl _) rfl 0 (by exact Nat.le_refl _) (by exact Nat.zero_le _) trivial trivial ⟨?_, rfl⟩
                  first
                    | (rw [newR_no (by omega)] <;> rfl)
                    | (rw [newR_out (by omega) hk (by rw [Bool.eq_false_iff]; intro hh; rw [inR_iff] at hh; omega)] <;> rfl)
                    | (rw [newR_bad (by omega) (by omega) hall ha hb (by unfold badR; first | (rw [c1, c2, c3] <;> rfl) | (rw [c4, Bool.or_true] <;> rfl) | (rw [c5, Bool.or_true]))] <;> rfl)
                    | (rw [newR_ok (by omega) (by omega) hall (by rw [← ha]; rw [← ha] at ha0; exact ha0.2)] <;> rfl)
                · try simp only [Z.a, Z.b, Z.c, Z.d, Z.e, Z.f, Z.g, Z.h, Z.i, Z.j, Z.k, Z.l, Z.m] at h12
                  have c3 : gt (tabF m ps) b a = _ := (gt_eq hj2 hji).trans h12
                  refine RO.opgv (v' := .d (encR _)) rfl (opv_load_ref rfl rfl rfl) rfl ?_
                  refine RO.opgv (v' := .d (.int _ _)) rfl (opv_move rfl) rfl ?_
                  refine RO.opgv (v' := .d (.int _ _)) rfl (opv_move rfl) rfl ?_
                  refine RO.opgv (v' := .d (.int _ _)) rfl (opv_callF (tjoin_fn (tabF m ps) m hs (by omega) _ _) rfl rfl rfl trivial) rfl ?_
                  refine RO.opgv (v' := .d (.bool _)) rfl (opv_bin rfl rfl rfl) rfl ?_
                  refine RO.opv (v' := .d (.bool _)) (opv_pick rfl rfl) rfl ?_
                  refine RO.opc (opv_move rfl) (fun h13 => ?_) (fun h13 => ?_)
                  · try simp only [Z.a, Z.b, Z.c, Z.d, Z.e, Z.f, Z.g, Z.h, Z.i, Z.j, Z.k, Z.l, Z.m] at h13
                    have c4 := decide_eq_true h13
                    refine RO.off rfl ?_
                    refine RO.off rfl ?_
                    refine RO.off rfl ?_
                    refine RO.off rfl ?_
                    refine RO.off rfl ?_
                    refine RO.opv (v' := .d (.bool true)) (opv_pick rfl rfl) rfl ?_
                    refine RO.nil ?_
                    refine Runs.condT rfl ?_
                    refine Runs.has [(0, .d (.int _ _)), (4, .ref 0 0), (8, .ref 1 0), (9, .d (.int _ _)), (10, .d (.int _ _))] ⟨rfl, rfl, rfl, rfl, rfl, trivial⟩ ?_
                    refine Runs.rseq ?_
                    refine RO.opv (v' := .d (encR _)) (opv_build_rl0 rfl rfl) rfl ?_
                    refine RO.op0n (O' := [_, _]) (opv_store_ref rfl rfl rfl rfl rfl (Nat.le_of_ble_eq_true rfl) rfl) rfl ?_
                    refine RO.opv (v' := .d (.int _ _)) (opv_assign rfl) rfl ?_
                    refine RO.nil ?_
                    refine Runs.ret ?_
                    refine blockQ_ret ?_
                    refine thenQ_ret ?_
                    refine thenQ_ret ?_
                    refine blockQ_ret ?_
                    refine blockQ_ret ?_
                    refine thenQ_ret ?_
                    refine thenQ_ret ?_
                    refine blockQ_ret ?_
                    refine thenQ_ret ?_
                    refine EndQ.ct (v := .d (encR _)) (v' := .d (.int _ _)) (.inr rfl) rfl rfl rfl (by exact take_rl _) rfl 0 (by exact Nat.le_refl _) (by exact Nat.zero_le _) trivial trivial ⟨?_, rfl⟩
                    first
                      | (rw [newR_no (by omega)] <;> rfl)
                      | (rw [newR_out (by omega) hk (by rw [Bool.eq_false_iff]; intro hh; rw [inR_iff] at hh; omega)] <;> rfl)
                      | (rw [newR_bad (by omega) (by omega) hall ha hb (by unfold badR; first | (rw [c1, c2, c3] <;> rfl) | (rw [c4, Bool.or_true] <;> rfl) | (rw [c5, Bool.or_true]))] <;> rfl)
                      | (rw [newR_ok (by omega) (by omega) hall (by rw [← ha]; rw [← ha] at ha0; exact ha0.2)] <;> rfl)
                  · try simp only [Z.a, Z.b, Z.c, Z.d, Z.e, Z.f, Z.g, Z.h, Z.i, Z.j, Z.k, Z.l, Z.m] at h13
                    have c4 := decide_eq_false (Int.not_lt.2 h13)
                    refine RO.opgv (v' := .d (encR _)) rfl (opv_load_ref rfl rfl rfl) rfl ?_
                    refine RO.opgv (v' := .d (.int _ _)) rfl (opv_move rfl) rfl ?_
                    refine RO.opgv (v' := .d (.int _ _)) rfl (opv_move rfl) rfl ?_
                    refine RO.opgv (v' := .d (.int _ _)) rfl (opv_callF (tmeet_fn (tabF m ps) m hs (by omega) _ _) rfl rfl rfl trivial) rfl ?_
                    refine RO.opgv (v' := .d (.bool _)) rfl (opv_bin rfl rfl rfl) rfl ?_
                    refine RO.opc (opv_pick rfl rfl) (fun h14 => ?_) (fun h14 => ?_)
                    · try simp only [Z.a, Z.b, Z.c, Z.d, Z.e, Z.f, Z.g, Z.h, Z.i, Z.j, Z.k, Z.l, Z.m] at h14
                      have c5 := decide_eq_true h14
                      refine RO.nil ?_
                      refine Runs.condT rfl ?_
                      refine Runs.has [(0, .d (.int _ _)), (4, .ref 0 0), (8, .ref 1 0), (9, .d (.int _ _)), (10, .d (.int _ _))] ⟨rfl, rfl, rfl, rfl, rfl, trivial⟩ ?_
                      refine Runs.rseq ?_
                      refine RO.opv (v' := .d (encR _)) (opv_build_rl0 rfl rfl) rfl ?_
                      refine RO.op0n (O' := [_, _]) (opv_store_ref rfl rfl rfl rfl rfl (Nat.le_of_ble_eq_true rfl) rfl) rfl ?_
                      refine RO.opv (v' := .d (.int _ _)) (opv_assign rfl) rfl ?_
                      refine RO.nil ?_
                      refine Runs.ret ?_
                      refine blockQ_ret ?_
                      refine thenQ_ret ?_
                      refine thenQ_ret ?_
                      refine blockQ_ret ?_
                      refine blockQ_ret ?_
                      refine thenQ_ret ?_
                      refine thenQ_ret ?_
                      refine blockQ_ret ?_
                      refine thenQ_ret ?_
                      refine EndQ.ct (v := .d (encR _)) (v' := .d (.int _ _)) (.inr rfl) rfl rfl rfl (by exact take_rl _) rfl 0 (by exact Nat.le_refl _) (by exact Nat.zero_le _) trivial trivial ⟨?_, rfl⟩
                      first
                        | (rw [newR_no (by omega)] <;> rfl)
                        | (rw [newR_out (by omega) hk (by rw [Bool.eq_false_iff]; intro hh; rw [inR_iff] at hh; omega)] <;> rfl)
                        | (rw [newR_bad (by omega) (by omega) hall ha hb (by unfold badR; first | (rw [c1, c2, c3] <;> rfl) | (rw [c4, Bool.or_true] <;> rfl) | (rw [c5, Bool.or_true]))] <;> rfl)
                        | (rw [newR_ok (by omega) (by omega) hall (by rw [← ha]; rw [← ha] at ha0; exact ha0.2)] <;> rfl)
                    · try simp only [Z.a, Z.b, Z.c, Z.d, Z.e, Z.f, Z.g, Z.h, Z.i, Z.j, Z.k, Z.l, Z.m] at h14
                      have c5 := decide_eq_false (Int.not_lt.2 h14)
                      refine RO.nil ?_
                      refine Runs.condF rfl ?_
                      refine Runs.skip ?_
                      refine blockQ_normal ?_
                      refine thenQ_normal ?_
                      refine Runs.has [(0, .d (.int _ _)), (4, .ref 0 0), (8, .ref 1 0), (9, .d (.int _ _)), (10, .d (.int _ _))] ⟨rfl, rfl, rfl, rfl, rfl, trivial⟩ ?_
                      refine Runs.region ?_
                      refine RO.opv (v' := .d (.int _ _)) (opv_move rfl) rfl ?_
                      refine RO.opv (v' := .d (.int _ _)) (opv_bin rfl rfl rfl) rfl ?_
                      refine RO.opv (v' := .d (.int _ _)) (opv_assign rfl) rfl ?_
                      refine RO.nil ?_
                      refine thenQ_normal ?_
                      refine ⟨b + 1, 2, (by rw [hK]; exact Nat.le_of_ble_eq_true rfl), ⟨rfl, rfl, rfl, rfl, trivial⟩, ⟨?_, trivial⟩, rfl, ?_, ?_⟩
                      · refine int_eq ?_; rw [wrap64 (by omega) (by omega)]; omega
                      · refine ⟨by omega, fun y hy => ?_⟩
                        rcases Nat.lt_succ_iff_lt_or_eq.1 hy with h' | h'
                        · exact hb0.2 y h'
                        · subst h'; unfold badR; first | (rw [c1, c2, c3, c4, c5]; rfl) | (rw [c1, c2, c4, c5]; rfl) | (rw [c1, c4, c5]; rfl)
                      · omega
              · try simp only [Z.a, Z.b, Z.c, Z.d, Z.e, Z.f, Z.g, Z.h, Z.i, Z.j, Z.k, Z.l, Z.m] at h11
                have c2 : gt (tabF m ps) a b = _ := (gt_eq hi2 hij).trans h11
                refine RO.off rfl ?_
                refine RO.off rfl ?_
                refine RO.off rfl ?_
                refine RO.off rfl ?_
                refine RO.off rfl ?_
                refine RO.off rfl ?_
                refine RO.off rfl ?_
                refine RO.off rfl ?_
                refine RO.opv (v' := .d (.bool false)) (opv_pick rfl rfl) rfl ?_
                refine RO.opv (v' := .d (.bool false)) (opv_move rfl) rfl ?_
                refine RO.opgv (v' := .d (encR _)) rfl (opv_load_ref rfl rfl rfl) rfl ?_
                refine RO.opgv (v' := .d (.int _ _)) rfl (opv_move rfl) rfl ?_
                refine RO.opgv (v' := .d (.int _ _)) rfl (opv_move rfl) rfl ?_
                refine RO.opgv (v' := .d (.int _ _)) rfl (opv_callF (tjoin_fn (tabF m ps) m hs (by omega) _ _) rfl rfl rfl trivial) rfl ?_
                refine RO.opgv (v' := .d (.bool _)) rfl (opv_bin rfl rfl rfl) rfl ?_
                refine RO.opv (v' := .d (.bool _)) (opv_pick rfl rfl) rfl ?_
                refine RO.opc (opv_move rfl) (fun h15 => ?_) (fun h15 => ?_)
                · try simp only [Z.a, Z.b, Z.c, Z.d, Z.e, Z.f, Z.g, Z.h, Z.i, Z.j, Z.k, Z.l, Z.m] at h15
                  have c4 := decide_eq_true h15
                  refine RO.off rfl ?_
                  refine RO.off rfl ?_
                  refine RO.off rfl ?_
                  refine RO.off rfl ?_
                  refine RO.off rfl ?_
                  refine RO.opv (v' := .d (.bool true)) (opv_pick rfl rfl) rfl ?_
                  refine RO.nil ?_
                  refine Runs.condT rfl ?_
                  refine Runs.has [(0, .d (.int _ _)), (4, .ref 0 0), (8, .ref 1 0), (9, .d (.int _ _)), (10, .d (.int _ _))] ⟨rfl, rfl, rfl, rfl, rfl, trivial⟩ ?_
                  refine Runs.rseq ?_
                  refine RO.opv (v' := .d (encR _)) (opv_build_rl0 rfl rfl) rfl ?_
                  refine RO.op0n (O' := [_, _]) (opv_store_ref rfl rfl rfl rfl rfl (Nat.le_of_ble_eq_true rfl) rfl) rfl ?_
                  refine RO.opv (v' := .d (.int _ _)) (opv_assign rfl) rfl ?_
                  refine RO.nil ?_
                  refine Runs.ret ?_
                  refine blockQ_ret ?_
                  refine thenQ_ret ?_
                  refine thenQ_ret ?_
                  refine blockQ_ret ?_
                  refine blockQ_ret ?_
                  refine thenQ_ret ?_
                  refine thenQ_ret ?_
                  refine blockQ_ret ?_
                  refine thenQ_ret ?_
                  refine EndQ.ct (v := .d (encR _)) (v' := .d (.int _ _)) (.inr rfl) rfl rfl rfl (by exact take_rl _) rfl 0 (by exact Nat.le_refl _) (by exact Nat.zero_le _) trivial trivial ⟨?_, rfl⟩
                  first
                    | (rw [newR_no (by omega)] <;> rfl)
                    | (rw [newR_out (by omega) hk (by rw [Bool.eq_false_iff]; intro hh; rw [inR_iff] at hh; omega)] <;> rfl)
                    | (rw [newR_bad (by omega) (by omega) hall ha hb (by unfold badR; first | (rw [c1, c2, c3] <;> rfl) | (rw [c4, Bool.or_true] <;> rfl) | (rw [c5, Bool.or_true]))] <;> rfl)
                    | (rw [newR_ok (by omega) (by omega) hall (by rw [← ha]; rw [← ha] at ha0; exact ha0.2)] <;> rfl)
                · try simp only [Z.a, Z.b, Z.c, Z.d, Z.e, Z.f, Z.g, Z.h, Z.i, Z.j, Z.k, Z.l, Z.m] at h15
                  have c4 := decide_eq_false (Int.not_lt.2 h15)
                  refine RO.opgv (v' := .d (encR _)) rfl (opv_load_ref rfl rfl rfl) rfl ?_
                  refine RO.opgv (v' := .d (.int _ _)) rfl (opv_move rfl) rfl ?_
                  refine RO.opgv (v' := .d (.int _ _)) rfl (opv_move rfl) rfl ?_
                  refine RO.opgv (v' := .d (.int _ _)) rfl (opv_callF (tmeet_fn (tabF m ps) m hs (by omega) _ _) rfl rfl rfl trivial) rfl ?_
                  refine RO.opgv (v' := .d (.bool _)) rfl (opv_bin rfl rfl rfl) rfl ?_
                  refine RO.opc (opv_pick rfl rfl) (fun h16 => ?_) (fun h16 => ?_)
                  · try simp only [Z.a, Z.b, Z.c, Z.d, Z.e, Z.f, Z.g, Z.h, Z.i, Z.j, Z.k, Z.l, Z.m] at h16
                    have c5 := decide_eq_true h16
                    refine RO.nil ?_
                    refine Runs.condT rfl ?_
                    refine Runs.has [(0, .d (.int _ _)), (4, .ref 0 0), (8, .ref 1 0), (9, .d (.int _ _)), (10, .d (.int _ _))] ⟨rfl, rfl, rfl, rfl, rfl, trivial⟩ ?_
                    refine Runs.rseq ?_
                    refine RO.opv (v' := .d (encR _)) (opv_build_rl0 rfl rfl) rfl ?_
                    refine RO.op0n (O' := [_, _]) (opv_store_ref rfl rfl rfl rfl rfl (Nat.le_of_ble_eq_true rfl) rfl) rfl ?_
                    refine RO.opv (v' := .d (.int _ _)) (opv_assign rfl) rfl ?_
                    refine RO.nil ?_
                    refine Runs.ret ?_
                    refine blockQ_ret ?_
                    refine thenQ_ret ?_
                    refine thenQ_ret ?_
                    refine blockQ_ret ?_
                    refine blockQ_ret ?_
                    refine thenQ_ret ?_
                    refine thenQ_ret ?_
                    refine blockQ_ret ?_
                    refine thenQ_ret ?_
                    refine EndQ.ct (v := .d (encR _)) (v' := .d (.int _ _)) (.inr rfl) rfl rfl rfl (by exact take_rl _) rfl 0 (by exact Nat.le_refl _) (by exact Nat.zero_le _) trivial trivial ⟨?_, rfl⟩
                    first
                      | (rw [newR_no (by omega)] <;> rfl)
                      | (rw [newR_out (by omega) hk (by rw [Bool.eq_false_iff]; intro hh; rw [inR_iff] at hh; omega)] <;> rfl)
                      | (rw [newR_bad (by omega) (by omega) hall ha hb (by unfold badR; first | (rw [c1, c2, c3] <;> rfl) | (rw [c4, Bool.or_true] <;> rfl) | (rw [c5, Bool.or_true]))] <;> rfl)
                      | (rw [newR_ok (by omega) (by omega) hall (by rw [← ha]; rw [← ha] at ha0; exact ha0.2)] <;> rfl)
                  · try simp only [Z.a, Z.b, Z.c, Z.d, Z.e, Z.f, Z.g, Z.h, Z.i, Z.j, Z.k, Z.l, Z.m] at h16
                    have c5 := decide_eq_false (Int.not_lt.2 h16)
                    refine RO.nil ?_
                    refine Runs.condF rfl ?_
                    refine Runs.skip ?_
                    refine blockQ_normal ?_
                    refine thenQ_normal ?_
                    refine Runs.has [(0, .d (.int _ _)), (4, .ref 0 0), (8, .ref 1 0), (9, .d (.int _ _)), (10, .d (.int _ _))] ⟨rfl, rfl, rfl, rfl, rfl, trivial⟩ ?_
                    refine Runs.region ?_
                    refine RO.opv (v' := .d (.int _ _)) (opv_move rfl) rfl ?_
                    refine RO.opv (v' := .d (.int _ _)) (opv_bin rfl rfl rfl) rfl ?_
                    refine RO.opv (v' := .d (.int _ _)) (opv_assign rfl) rfl ?_
                    refine RO.nil ?_
                    refine thenQ_normal ?_
                    refine ⟨b + 1, 2, (by rw [hK]; exact Nat.le_of_ble_eq_true rfl), ⟨rfl, rfl, rfl, rfl, trivial⟩, ⟨?_, trivial⟩, rfl, ?_, ?_⟩
                    · refine int_eq ?_; rw [wrap64 (by omega) (by omega)]; omega
                    · refine ⟨by omega, fun y hy => ?_⟩
                      rcases Nat.lt_succ_iff_lt_or_eq.1 hy with h' | h'
                      · exact hb0.2 y h'
                      · subst h'; unfold badR; first | (rw [c1, c2, c3, c4, c5]; rfl) | (rw [c1, c2, c4, c5]; rfl) | (rw [c1, c4, c5]; rfl)
                    · omega
            · try simp only [Z.a, Z.b, Z.c, Z.d, Z.e, Z.f, Z.g, Z.h, Z.i, Z.j, Z.k, Z.l, Z.m] at h10
              have c1 : (a != b) = false := by simp; omega
              refine RO.off rfl ?_
              refine RO.off rfl ?_
              refine RO.off rfl ?_
              refine RO.off rfl ?_
              refine RO.off rfl ?_
              refine RO.off rfl ?_
              refine RO.off rfl ?_
              refine RO.off rfl ?_
              refine RO.opv (v' := .d (.bool false)) (opv_pick rfl rfl) rfl ?_
              refine RO.opv (v' := .d (.bool false)) (opv_move rfl) rfl ?_
              refine RO.off rfl ?_
              refine RO.off rfl ?_
              refine RO.off rfl ?_
              refine RO.off rfl ?_
              refine RO.off rfl ?_
              refine RO.off rfl ?_
              refine RO.off rfl ?_
              refine RO.off rfl ?_
              refine RO.opv (v' := .d (.bool false)) (opv_pick rfl rfl) rfl ?_
              refine RO.opv (v' := .d (.bool false)) (opv_move rfl) rfl ?_
              refine RO.opgv (v' := .d (encR _)) rfl (opv_load_ref rfl rfl rfl) rfl ?_
              refine RO.opgv (v' := .d (.int _ _)) rfl (opv_move rfl) rfl ?_
              refine RO.opgv (v' := .d (.int _ _)) rfl (opv_move rfl) rfl ?_
              refine RO.opgv (v' := .d (.int _ _)) rfl (opv_callF (tjoin_fn (tabF m ps) m hs (by omega) _ _) rfl rfl rfl trivial) rfl ?_
              refine RO.opgv (v' := .d (.bool _)) rfl (opv_bin rfl rfl rfl) rfl ?_
              refine RO.opv (v' := .d (.bool _)) (opv_pick rfl rfl) rfl ?_
              refine RO.opc (opv_move rfl) (fun h17 => ?_) (fun h17 => ?_)
              · try simp only [Z.a, Z.b, Z.c, Z.d, Z.e, Z.f, Z.g, Z.h, Z.i, Z.j, Z.k, Z.l, Z.m] at h17
                have c4 := decide_eq_true h17
                refine RO.off rfl ?_
                refine RO.off rfl ?_
                refine RO.off rfl ?_
                refine RO.off rfl ?_
                refine RO.off rfl ?_
                refine RO.opv (v' := .d (.bool true)) (opv_pick rfl rfl) rfl ?_
                refine RO.nil ?_
                refine Runs.condT rfl ?_
                refine Runs.has [(0, .d (.int _ _)), (4, .ref 0 0), (8, .ref 1 0), (9, .d (.int _ _)), (10, .d (.int _ _))] ⟨rfl, rfl, rfl, rfl, rfl, trivial⟩ ?_
                refine Runs.rseq ?_
                refine RO.opv (v' := .d (encR _)) (opv_build_rl0 rfl rfl) rfl ?_
                refine RO.op0n (O' := [_, _]) (opv_store_ref rfl rfl rfl rfl rfl (Nat.le_of_ble_eq_true rfl) rfl) rfl ?_
                refine RO.opv (v' := .d (.int _ _)) (opv_assign rfl) rfl ?_
                refine RO.nil ?_
                refine Runs.ret ?_
                refine blockQ_ret ?_
                refine thenQ_ret ?_
                refine thenQ_ret ?_
                refine blockQ_ret ?_
                refine blockQ_ret ?_
                refine thenQ_ret ?_
                refine thenQ_ret ?_
                refine blockQ_ret ?_
                refine thenQ_ret ?_
                refine EndQ.ct (v := .d (encR _)) (v' := .d (.int _ _)) (.inr rfl) rfl rfl rfl (by exact take_rl _) rfl 0 (by exact Nat.le_refl _) (by exact Nat.zero_le _) trivial trivial ⟨?_, rfl⟩
                first
                  | (rw [newR_no (by omega)] <;> rfl)
                  | (rw [newR_out (by omega) hk (by rw [Bool.eq_false_iff]; intro hh; rw [inR_iff] at hh; omega)] <;> rfl)
                  | (rw [newR_bad (by omega) (by omega) hall ha hb (by unfold badR; first | (rw [c1, c2, c3] <;> rfl) | (rw [c4, Bool.or_true] <;> rfl) | (rw [c5, Bool.or_true]))] <;> rfl)
                  | (rw [newR_ok (by omega) (by omega) hall (by rw [← ha]; rw [← ha] at ha0; exact ha0.2)] <;> rfl)
              · try simp only [Z.a, Z.b, Z.c, Z.d, Z.e, Z.f, Z.g, Z.h, Z.i, Z.j, Z.k, Z.l, Z.m] at h17
                have c4 := decide_eq_false (Int.not_lt.2 h17)
                refine RO.opgv (v' := .d (encR _)) rfl (opv_load_ref rfl rfl rfl) rfl ?_
                refine RO.opgv (v' := .d (.int _ _)) rfl (opv_move rfl) rfl ?_
                refine RO.opgv (v' := .d (.int _ _)) rfl (opv_move rfl) rfl ?_
                refine RO.opgv (v' := .d (.int _ _)) rfl (opv_callF (tmeet_fn (tabF m ps) m hs (by omega) _ _) rfl rfl rfl trivial) rfl ?_
                refine RO.opgv (v' := .d (.bool _)) rfl (opv_bin rfl rfl rfl) rfl ?_
                refine RO.opc (opv_pick rfl rfl) (fun h18 => ?_) (fun h18 => ?_)
                · try simp only [Z.a, Z.b, Z.c, Z.d, Z.e, Z.f, Z.g, Z.h, Z.i, Z.j, Z.k, Z.l, Z.m] at h18
                  have c5 := decide_eq_true h18
                  refine RO.nil ?_
                  refine Runs.condT rfl ?_
                  refine Runs.has [(0, .d (.int _ _)), (4, .ref 0 0), (8, .ref 1 0), (9, .d (.int _ _)), (10, .d (.int _ _))] ⟨rfl, rfl, rfl, rfl, rfl, trivial⟩ ?_
                  refine Runs.rseq ?_
                  refine RO.opv (v' := .d (encR _)) (opv_build_rl0 rfl rfl) rfl ?_
                  refine RO.op0n (O' := [_, _]) (opv_store_ref rfl rfl rfl rfl rfl (Nat.le_of_ble_eq_true rfl) rfl) rfl ?_
                  refine RO.opv (v' := .d (.int _ _)) (opv_assign rfl) rfl ?_
                  refine RO.nil ?_
                  refine Runs.ret ?_
                  refine blockQ_ret ?_
                  refine thenQ_ret ?_
                  refine thenQ_ret ?_
                  refine blockQ_ret ?_
                  refine blockQ_ret ?_
                  refine thenQ_ret ?_
                  refine thenQ_ret ?_
                  refine blockQ_ret ?_
                  refine thenQ_ret ?_
                  refine EndQ.ct (v := .d (encR _)) (v' := .d (.int _ _)) (.inr rfl) rfl rfl rfl (by exact take_rl _) rfl 0 (by exact Nat.le_refl _) (by exact Nat.zero_le _) trivial trivial ⟨?_, rfl⟩
                  first
                    | (rw [newR_no (by omega)] <;> rfl)
                    | (rw [newR_out (by omega) hk (by rw [Bool.eq_false_iff]; intro hh; rw [inR_iff] at hh; omega)] <;> rfl)
                    | (rw [newR_bad (by omega) (by omega) hall ha hb (by unfold badR; first | (rw [c1, c2, c3] <;> rfl) | (rw [c4, Bool.or_true] <;> rfl) | (rw [c5, Bool.or_true]))] <;> rfl)
                    | (rw [newR_ok (by omega) (by omega) hall (by rw [← ha]; rw [← ha] at ha0; exact ha0.2)] <;> rfl)
                · try simp only [Z.a, Z.b, Z.c, Z.d, Z.e, Z.f, Z.g, Z.h, Z.i, Z.j, Z.k, Z.l, Z.m] at h18
                  have c5 := decide_eq_false (Int.not_lt.2 h18)
                  refine RO.nil ?_
                  refine Runs.condF rfl ?_
                  refine Runs.skip ?_
                  refine blockQ_normal ?_
                  refine thenQ_normal ?_
                  refine Runs.has [(0, .d (.int _ _)), (4, .ref 0 0), (8, .ref 1 0), (9, .d (.int _ _)), (10, .d (.int _ _))] ⟨rfl, rfl, rfl, rfl, rfl, trivial⟩ ?_
                  refine Runs.region ?_
                  refine RO.opv (v' := .d (.int _ _)) (opv_move rfl) rfl ?_
                  refine RO.opv (v' := .d (.int _ _)) (opv_bin rfl rfl rfl) rfl ?_
                  refine RO.opv (v' := .d (.int _ _)) (opv_assign rfl) rfl ?_
                  refine RO.nil ?_
                  refine thenQ_normal ?_
                  refine ⟨b + 1, 2, (by rw [hK]; exact Nat.le_of_ble_eq_true rfl), ⟨rfl, rfl, rfl, rfl, trivial⟩, ⟨?_, trivial⟩, rfl, ?_, ?_⟩
                  · refine int_eq ?_; rw [wrap64 (by omega) (by omega)]; omega
                  · refine ⟨by omega, fun y hy => ?_⟩
                    rcases Nat.lt_succ_iff_lt_or_eq.1 hy with h' | h'
                    · exact hb0.2 y h'
                    · subst h'; unfold badR; first | (rw [c1, c2, c3, c4, c5]; rfl) | (rw [c1, c2, c4, c5]; rfl) | (rw [c1, c4, c5]; rfl)
                  · omega
          · try simp only [Z.a, Z.b, Z.c, Z.d, Z.e, Z.f, Z.g, Z.h, Z.i, Z.j, Z.k, Z.l, Z.m] at h9
            have hb : b = m := by omega
            refine RO.nil ?_
            refine Runs.condF rfl ?_
            refine Runs.exit ?_
            refine thenQ_exit ?_
            refine thenQ_exit ?_
            refine blockQ_here ?_
            refine blockQ_normal ?_
            refine thenQ_normal ?_
            refine Runs.has [(0, .d (.int _ _)), (4, .ref 0 0), (8, .ref 1 0), (9, .d (.int _ _))] ⟨rfl, rfl, rfl, rfl, trivial⟩ ?_
            refine Runs.region ?_
            refine RO.opv (v' := .d (.int _ _)) (opv_move rfl) rfl ?_
            refine RO.opv (v' := .d (.int _ _)) (opv_bin rfl rfl rfl) rfl ?_
            refine RO.opv (v' := .d (.int _ _)) (opv_assign rfl) rfl ?_
            refine RO.nil ?_
            refine thenQ_normal ?_
            refine ⟨a + 1, 2, (by rw [hK]; exact Nat.le_of_ble_eq_true rfl), ⟨rfl, rfl, rfl, trivial⟩, ⟨?_, trivial⟩, rfl, ?_, ?_⟩
            · refine int_eq ?_; rw [wrap64 (by omega) (by omega)]; omega
            · refine ⟨by omega, fun x y hx hy => ?_⟩
              rcases Nat.lt_succ_iff_lt_or_eq.1 hx with h' | h'
              · exact ha0.2 x y h' hy
              · subst h'; exact hb0.2 y (by omega)
            · omega
        · try simp only [Z.a, Z.b, Z.c, Z.d, Z.e, Z.f, Z.g, Z.h, Z.i, Z.j, Z.k, Z.l, Z.m] at h8
          have ha : a = m := by omega
          refine RO.nil ?_
          refine Runs.condF rfl ?_
          refine Runs.exit ?_
          refine thenQ_exit ?_
          refine thenQ_exit ?_
          refine blockQ_here ?_
          refine thenQ_normal ?_
          refine Runs.has [(4, .ref 0 0), (8, .ref 1 0)] ⟨rfl, rfl, trivial⟩ ?_
          refine Runs.rseq ?_
          refine RO.opv (v' := .d (encR _)) (opv_load_ref rfl rfl rfl) rfl ?_
          refine RO.op0n (O' := [_, _]) (opv_store_ref rfl rfl rfl rfl rfl (Nat.le_of_ble_eq_true rfl) rfl) rfl ?_
          refine RO.opv (v' := .d (.int _ _)) (opv_assign rfl) rfl ?_
          refine RO.nil ?_
          refine Runs.ret ?_
          refine EndQ.ct (v := .d (encR _)) (v' := .d (.int _ _)) (.inr rfl) rfl rfl rfl (by exact take_rl _) rfl 0 (by exact Nat.le_refl _) (by exact Nat.zero_le _) trivial trivial ⟨?_, rfl⟩
          first
            | (rw [newR_no (by omega)] <;> rfl)
            | (rw [newR_out (by omega) hk (by rw [Bool.eq_false_iff]; intro hh; rw [inR_iff] at hh; omega)] <;> rfl)
            | (rw [newR_bad (by omega) (by omega) hall ha hb (by unfold badR; first | (rw [c1, c2, c3] <;> rfl) | (rw [c4, Bool.or_true] <;> rfl) | (rw [c5, Bool.or_true]))] <;> rfl)
            | (rw [newR_ok (by omega) (by omega) hall (by rw [← ha]; rw [← ha] at ha0; exact ha0.2)] <;> rfl)
end Go.Proofs.Ytohncglpjiplaaa.AM
