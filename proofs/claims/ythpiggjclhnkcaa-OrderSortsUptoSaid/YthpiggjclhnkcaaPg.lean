import Derived.Test.YthpiggjclhnkcaaOg
import Derived.Test.YthpiggjclhnkcaaWS
namespace Go.Proofs.Ythpiggjclhnkcaa.AM
open Go
set_option linter.unusedVariables false
set_option linter.unusedSimpArgs false
theorem swap_fn (l : List Term) (v a b n : Nat) (g1 : a + n ≤ b) (g2 : b + n ≤ l.length) (hl : l.length ≤ 2 ^ 20) : Fn Try.prog 70 [.own 0 v, .d (.int .i64 ((a : Nat) : Int)), .d (.int .i64 ((b : Nat) : Int)), .d (.int .i64 ((n : Nat) : Int)), .fn 19 []] [.buf 24 4 (encs l) v] (.tup []) [.buf 24 4 (encs (swr l a b n)) v] := by
  refine Does.run Try.func70 rfl Try.ntmps70 rfl fun K hK => ?_
  refine Runs.has [(0, .own 0 _), (1, .d (.int _ _)), (2, .d (.int _ _)), (3, .d (.int _ _))] ⟨rfl, rfl, rfl, rfl, trivial⟩ ?_
  refine Runs.rseq ?_
  refine RO.opv (v' := .d (.int _ _)) (opv_assign rfl) rfl ?_
  refine RO.nil ?_
  refine Runs.block ?_
  refine Runs.loopC (X := Nat) (fun i => i ≤ n) (fun i => n - i) [(0, .own 0 _), (1, .d (.int _ _)), (2, .d (.int _ _)), (3, .d (.int _ _))] (fun i => [(10, .d (.int .i64 ((i : Nat) : Int)))]) [] (fun i => [.buf 24 4 (encs (swr l a b i)) v]) (0) ⟨rfl, rfl, rfl, rfl, trivial⟩ ⟨rfl, trivial⟩ rfl (Nat.zero_le _) fun i hi => ?_
  refine Runs.seq ?_
  refine Runs.rseq ?_
  refine RO.opv (v' := .d (.int _ _)) (opv_move rfl) rfl ?_
  refine RO.opv (v' := .d (.int _ _)) (opv_move rfl) rfl ?_
  refine RO.opc (opv_bin rfl rfl rfl) (fun h1 => ?_) (fun h1 => ?_)
  · try simp only [Z.a, Z.b, Z.c, Z.d, Z.e, Z.f, Z.g, Z.h, Z.i, Z.j, Z.k, Z.l, Z.m] at h1
    have hk : i < n := by omega
    have hlen := swr_len l a b i
    obtain ⟨X, hgx⟩ : ∃ X, (swr l a b i)[a + i]? = some X := ⟨_, List.getElem?_eq_getElem (by omega)⟩
    obtain ⟨Y, hgy⟩ : ∃ Y, (swr l a b i)[b + i]? = some Y := ⟨_, List.getElem?_eq_getElem (by omega)⟩
    refine RO.nil ?_
    refine Runs.condT rfl ?_
    refine Runs.skip ?_
    refine thenQ_normal ?_
    refine Runs.has [(0, .own 0 _), (1, .d (.int _ _)), (2, .d (.int _ _)), (3, .d (.int _ _)), (10, .d (.int _ _))] ⟨rfl, rfl, rfl, rfl, rfl, trivial⟩ ?_
    refine Runs.seq ?_
    refine Runs.block ?_
    refine Runs.drawn (by kernel_rfl) [] [false, false, false, false, true, true, true, true, false, false, false, false, false, false, false, false, false, false, false, false, false, false, false, false] [false, false, false, false, false, false, false, false, false, false, false, false, false, false, false, false, false, false, false, false, false, true, false, true] (by decide +kernel) ?_
    refine RD.opv (v' := .own 0 _) (opv_move rfl) rfl ?_
    refine RD.opv (v' := .d (.int _ _)) (opv_move rfl) rfl ?_
    refine RD.opv (v' := .d (.int _ _)) (opv_move rfl) rfl ?_
    refine RD.opv (v' := .d (.int _ _)) (opv_arith (r := ((a + i : Nat) : Int)) rfl rfl (by simp only [binD, if_true]; rw [wrap64 (by omega) (by omega)]; congr 2)) rfl ?_
    refine RD.opa (v' := .own 0 _) (fun O' hkeep => opv_move rfl) rfl ?_
    refine RD.opa (v' := .d (.int _ _)) (fun O' hkeep => opv_move rfl) rfl ?_
    refine RD.opa (v' := .d (.int _ _)) (fun O' hkeep => opv_move rfl) rfl ?_
    refine RD.opa (v' := .d (.int _ _)) (fun O' hkeep => opv_arith (r := ((b + i : Nat) : Int)) rfl rfl (by simp only [binD, if_true]; rw [wrap64 (by omega) (by omega)]; congr 2)) rfl ?_
    refine RD.opv (v' := .own 0 _) (opv_move rfl) rfl ?_
    refine RD.opv (v' := .d (.int _ _)) (opv_move rfl) rfl ?_
    refine RD.opv (v' := .d (.int _ _)) (opv_move rfl) rfl ?_
    refine RD.opv (v' := .d (.int _ _)) (opv_arith (r := ((b + i : Nat) : Int)) rfl rfl (by simp only [binD, if_true]; rw [wrap64 (by omega) (by omega)]; congr 2)) rfl ?_
    refine RD.opv (v' := .oel 0 _ _ 0) (opv_index_oterm rfl rfl rfl (by omega)) rfl ?_
    refine RD.opv (v' := .d (enc _)) (opv_load_oterm rfl rfl hgy) rfl ?_
    refine RD.opv (v' := .own 0 _) (opv_move rfl) rfl ?_
    refine RD.opv (v' := .d (.int _ _)) (opv_move rfl) rfl ?_
    refine RD.opv (v' := .d (.int _ _)) (opv_move rfl) rfl ?_
    refine RD.opv (v' := .d (.int _ _)) (opv_arith (r := ((a + i : Nat) : Int)) rfl rfl (by simp only [binD, if_true]; rw [wrap64 (by omega) (by omega)]; congr 2)) rfl ?_
    refine RD.opv (v' := .oel 0 _ _ 0) (opv_index_oterm rfl rfl rfl (by omega)) rfl ?_
    refine RD.opv (v' := .d (enc _)) (opv_load_oterm rfl rfl hgx) rfl ?_
    refine RD.opv (v' := .oel 0 _ _ 0) (opv_index_oterm rfl rfl rfl (by omega)) rfl ?_
    refine RD.op0n (O' := [_]) (opv_store_oterm rfl rfl rfl (by omega)) rfl trivial ?_
    refine RD.opv (v' := .oel 0 _ _ 0) (opv_index_oterm rfl rfl rfl (by rw [List.length_set]; omega)) rfl ?_
    refine RD.op0n (O' := [_]) (opv_store_oterm rfl rfl rfl (by rw [List.length_set]; omega)) rfl trivial ?_
    refine RD.nil ?_
    refine blockQ_normal ?_
    refine thenQ_normal ?_
    refine Runs.has [(0, .own 0 _), (1, .d (.int _ _)), (2, .d (.int _ _)), (3, .d (.int _ _)), (10, .d (.int _ _))] ⟨rfl, rfl, rfl, rfl, rfl, trivial⟩ ?_
    refine Runs.region ?_
    refine RO.opv (v' := .d (.int _ _)) (opv_move rfl) rfl ?_
    refine RO.opv (v' := .d (.int _ _)) (opv_bin rfl rfl rfl) rfl ?_
    refine RO.opv (v' := .d (.int _ _)) (opv_assign rfl) rfl ?_
    refine RO.nil ?_
    refine thenQ_normal ?_
    refine ⟨i + 1, 1, (by rw [hK]; exact Nat.le_of_ble_eq_true rfl), ⟨rfl, rfl, rfl, rfl, trivial⟩, ⟨?_, trivial⟩, ?_, ?_, ?_⟩
    · refine int_eq ?_; rw [wrap64 (by omega) (by omega)]; omega
    · rw [swr_succ (by omega) (by omega) hgx hgy]; rfl
    · omega
    · omega
  · try simp only [Z.a, Z.b, Z.c, Z.d, Z.e, Z.f, Z.g, Z.h, Z.i, Z.j, Z.k, Z.l, Z.m] at h1
    have hk : i = n := by omega
    refine RO.nil ?_
    refine Runs.condF rfl ?_
    refine Runs.exit ?_
    refine thenQ_exit ?_
    refine thenQ_exit ?_
    refine blockQ_here ?_
    refine EndQ.none (.inl rfl) rfl 1 (by exact Nat.le_refl _) (by simp) ⟨rfl, ?_⟩
    · rw [hk]; rfl
theorem rot_fn (l : List Term) (v a m b : Nat) (g1 : a < m) (g2 : m < b) (g3 : b ≤ l.length) (hl : l.length ≤ 2 ^ 20) : Fn Try.prog 69 [.own 0 v, .d (.int .i64 ((a : Nat) : Int)), .d (.int .i64 ((m : Nat) : Int)), .d (.int .i64 ((b : Nat) : Int)), .fn 19 []] [.buf 24 4 (encs l) v] (.tup []) [.buf 24 4 (encs (rotF l a m b)) v] := by
  refine Does.run Try.func69 rfl Try.ntmps69 rfl fun K hK => ?_
  refine Runs.rseq ?_
  refine RO.opv (v' := .d (.int _ _)) (opv_move rfl) rfl ?_
  refine RO.opv (v' := .d (.int _ _)) (opv_move rfl) rfl ?_
  refine RO.opv (v' := .d (.int _ _)) (opv_arith (r := ((m - a : Nat) : Int)) rfl rfl (by simp only [binD, if_true]; rw [wrap64 (by omega) (by omega)]; congr 2; omega)) rfl ?_
  refine RO.opv (v' := .d (.int _ _)) (opv_assign rfl) rfl ?_
  refine RO.nil ?_
  refine Runs.has [(0, .own 0 _), (2, .d (.int _ _)), (3, .d (.int _ _)), (4, .fn 19 _), (10, .d (.int _ _))] ⟨rfl, rfl, rfl, rfl, rfl, trivial⟩ ?_
  refine Runs.rseq ?_
  refine RO.opv (v' := .d (.int _ _)) (opv_move rfl) rfl ?_
  refine RO.opv (v' := .d (.int _ _)) (opv_move rfl) rfl ?_
  refine RO.opv (v' := .d (.int _ _)) (opv_arith (r := ((b - m : Nat) : Int)) rfl rfl (by simp only [binD, if_true]; rw [wrap64 (by omega) (by omega)]; congr 2; omega)) rfl ?_
  refine RO.opv (v' := .d (.int _ _)) (opv_assign rfl) rfl ?_
  refine RO.nil ?_
  refine Runs.has [(0, .own 0 _), (2, .d (.int _ _)), (4, .fn 19 _), (10, .d (.int _ _)), (11, .d (.int _ _))] ⟨rfl, rfl, rfl, rfl, rfl, trivial⟩ ?_
  refine Runs.seq ?_
  refine Runs.block ?_
  refine Runs.loopC (X := (Nat × Nat × List Term)) (fun y => rotF y.2.2 (m - y.1) m (m + y.2.1) = rotF l a m b ∧ 1 ≤ y.1 ∧ y.1 ≤ m ∧ 1 ≤ y.2.1 ∧ m + y.2.1 ≤ l.length ∧ y.2.2.length = l.length) (fun y => y.1 + y.2.1) [(0, .own 0 _), (2, .d (.int _ _)), (4, .fn 19 _)] (fun y => [(10, .d (.int .i64 ((y.1 : Nat) : Int))), (11, .d (.int .i64 ((y.2.1 : Nat) : Int)))]) [] (fun y => [.buf 24 4 (encs y.2.2) v]) ((m - a, b - m, l)) ⟨rfl, rfl, rfl, trivial⟩ ⟨rfl, rfl, trivial⟩ rfl ⟨by show rotF l (m - (m - a)) m (m + (b - m)) = _; rw [show m - (m - a) = a by omega, show m + (b - m) = b by omega], by show 1 ≤ m - a; omega, by show m - a ≤ m; omega, by show 1 ≤ b - m; omega, by show m + (b - m) ≤ _; omega, rfl⟩ fun y hy => ?_
  obtain ⟨y1, y2, y3, y4, y5, y6⟩ := hy
  refine Runs.seq ?_
  refine Runs.rseq ?_
  refine RO.opv (v' := .d (.int _ _)) (opv_move rfl) rfl ?_
  refine RO.opv (v' := .d (.int _ _)) (opv_move rfl) rfl ?_
  refine RO.opc (opv_bin rfl rfl rfl) (fun h1 => ?_) (fun h1 => ?_)
  · try simp only [Z.a, Z.b, Z.c, Z.d, Z.e, Z.f, Z.g, Z.h, Z.i, Z.j, Z.k, Z.l, Z.m] at h1
    have hne : ¬ y.1 = y.2.1 := by omega
    refine RO.nil ?_
    refine Runs.condT rfl ?_
    refine Runs.skip ?_
    refine thenQ_normal ?_
    refine Runs.block ?_
    refine Runs.has [(0, .own 0 _), (2, .d (.int _ _)), (4, .fn 19 _), (10, .d (.int _ _)), (11, .d (.int _ _))] ⟨rfl, rfl, rfl, rfl, rfl, trivial⟩ ?_
    refine Runs.rseq ?_
    refine RO.opv (v' := .d (.int _ _)) (opv_move rfl) rfl ?_
    refine RO.opv (v' := .d (.int _ _)) (opv_move rfl) rfl ?_
    refine RO.opc (opv_bin rfl rfl rfl) (fun h2 => ?_) (fun h2 => ?_)
    · try simp only [Z.a, Z.b, Z.c, Z.d, Z.e, Z.f, Z.g, Z.h, Z.i, Z.j, Z.k, Z.l, Z.m] at h2
      have hgt : y.2.1 < y.1 := by omega
      refine RO.nil ?_
      refine Runs.condT rfl ?_
      refine Runs.has [(0, .own 0 _), (2, .d (.int _ _)), (4, .fn 19 _), (10, .d (.int _ _)), (11, .d (.int _ _))] ⟨rfl, rfl, rfl, rfl, rfl, trivial⟩ ?_
      refine Runs.rseq ?_
      refine RO.opv (v' := .own 0 _) (opv_move rfl) rfl ?_
      refine RO.opv (v' := .d (.int _ _)) (opv_move rfl) rfl ?_
      refine RO.opv (v' := .d (.int _ _)) (opv_move rfl) rfl ?_
      refine RO.opv (v' := .d (.int _ _)) (opv_arith (r := ((m - y.1 : Nat) : Int)) rfl rfl (by simp only [binD, if_true]; rw [wrap64 (by omega) (by omega)]; congr 2; omega)) rfl ?_
      refine RO.opv (v' := .d (.int _ _)) (opv_move rfl) rfl ?_
      refine RO.opv (v' := .d (.int _ _)) (opv_move rfl) rfl ?_
      refine RO.opv (v' := .fn 19 _) (opv_move rfl) rfl ?_
      refine RO.opn (O' := [_]) (opv_callP 1 (swap_fn y.2.2 v (m - y.1) m y.2.1 (by omega) (by omega) (by omega)) rfl rfl (Nat.le_of_ble_eq_true rfl) rfl (AV.bds_of_B _ rfl)) rfl rfl ?_
      refine RO.nil ?_
      refine Runs.has [(0, .own 0 _), (2, .d (.int _ _)), (4, .fn 19 _), (10, .d (.int _ _)), (11, .d (.int _ _))] ⟨rfl, rfl, rfl, rfl, rfl, trivial⟩ ?_
      refine Runs.region ?_
      refine RO.opv (v' := .d (.int _ _)) (opv_move rfl) rfl ?_
      refine RO.opv (v' := .d (.int _ _)) (opv_move rfl) rfl ?_
      refine RO.opv (v' := .d (.int _ _)) (opv_arith (r := ((y.1 - y.2.1 : Nat) : Int)) rfl rfl (by simp only [binD, if_true]; rw [wrap64 (by omega) (by omega)]; congr 2; omega)) rfl ?_
      refine RO.opv (v' := .d (.int _ _)) (opv_assign rfl) rfl ?_
      refine RO.nil ?_
      refine blockQ_normal ?_
      refine thenQ_normal ?_
      refine ⟨(y.1 - y.2.1, y.2.1, swr y.2.2 (m - y.1) m y.2.1), 1, (by rw [hK]; exact Nat.le_of_ble_eq_true rfl), ⟨rfl, rfl, rfl, trivial⟩, ⟨?_, ?_, trivial⟩, rfl, ?_, ?_⟩
      · rfl
      · rfl
      · refine ⟨by rw [← y1]; exact rot_left y3 (by omega) hgt, by show 1 ≤ y.1 - y.2.1; omega, by show y.1 - y.2.1 ≤ m; omega, y4, y5, by show (swr _ _ _ _).length = _; rw [swr_len]; exact y6⟩
      · first | (show y.1 - y.2.1 + y.2.1 < _; omega) | (show y.1 + (y.2.1 - y.1) < _; omega)
    · try simp only [Z.a, Z.b, Z.c, Z.d, Z.e, Z.f, Z.g, Z.h, Z.i, Z.j, Z.k, Z.l, Z.m] at h2
      have hlt : y.1 < y.2.1 := by omega
      refine RO.nil ?_
      refine Runs.condF rfl ?_
      refine Runs.has [(0, .own 0 _), (2, .d (.int _ _)), (4, .fn 19 _), (10, .d (.int _ _)), (11, .d (.int _ _))] ⟨rfl, rfl, rfl, rfl, rfl, trivial⟩ ?_
      refine Runs.rseq ?_
      refine RO.opv (v' := .own 0 _) (opv_move rfl) rfl ?_
      refine RO.opv (v' := .d (.int _ _)) (opv_move rfl) rfl ?_
      refine RO.opv (v' := .d (.int _ _)) (opv_move rfl) rfl ?_
      refine RO.opv (v' := .d (.int _ _)) (opv_arith (r := ((m - y.1 : Nat) : Int)) rfl rfl (by simp only [binD, if_true]; rw [wrap64 (by omega) (by omega)]; congr 2; omega)) rfl ?_
      refine RO.opv (v' := .d (.int _ _)) (opv_move rfl) rfl ?_
      refine RO.opv (v' := .d (.int _ _)) (opv_move rfl) rfl ?_
      refine RO.opv (v' := .d (.int _ _)) (opv_arith (r := ((m + y.2.1 : Nat) : Int)) rfl rfl (by simp only [binD, if_true]; rw [wrap64 (by omega) (by omega)]; congr 2)) rfl ?_
      refine RO.opv (v' := .d (.int _ _)) (opv_move rfl) rfl ?_
      refine RO.opv (v' := .d (.int _ _)) (opv_arith (r := ((m + (y.2.1 - y.1) : Nat) : Int)) rfl rfl (by simp only [binD, if_true]; rw [wrap64 (by omega) (by omega)]; congr 2; omega)) rfl ?_
      refine RO.opv (v' := .d (.int _ _)) (opv_move rfl) rfl ?_
      refine RO.opv (v' := .fn 19 _) (opv_move rfl) rfl ?_
      refine RO.opn (O' := [_]) (opv_callP 1 (swap_fn y.2.2 v (m - y.1) (m + (y.2.1 - y.1)) y.1 (by omega) (by omega) (by omega)) rfl rfl (Nat.le_of_ble_eq_true rfl) rfl (AV.bds_of_B _ rfl)) rfl rfl ?_
      refine RO.nil ?_
      refine Runs.has [(0, .own 0 _), (2, .d (.int _ _)), (4, .fn 19 _), (10, .d (.int _ _)), (11, .d (.int _ _))] ⟨rfl, rfl, rfl, rfl, rfl, trivial⟩ ?_
      refine Runs.region ?_
      refine RO.opv (v' := .d (.int _ _)) (opv_move rfl) rfl ?_
      refine RO.opv (v' := .d (.int _ _)) (opv_move rfl) rfl ?_
      refine RO.opv (v' := .d (.int _ _)) (opv_arith (r := ((y.2.1 - y.1 : Nat) : Int)) rfl rfl (by simp only [binD, if_true]; rw [wrap64 (by omega) (by omega)]; congr 2; omega)) rfl ?_
      refine RO.opv (v' := .d (.int _ _)) (opv_assign rfl) rfl ?_
      refine RO.nil ?_
      refine blockQ_normal ?_
      refine thenQ_normal ?_
      refine ⟨(y.1, y.2.1 - y.1, swr y.2.2 (m - y.1) (m + (y.2.1 - y.1)) y.1), 1, (by rw [hK]; exact Nat.le_of_ble_eq_true rfl), ⟨rfl, rfl, rfl, trivial⟩, ⟨?_, ?_, trivial⟩, rfl, ?_, ?_⟩
      · rfl
      · rfl
      · refine ⟨by rw [← y1]; exact rot_right y3 (by omega) hlt, y2, y3, by show 1 ≤ y.2.1 - y.1; omega, by show m + (y.2.1 - y.1) ≤ _; omega, by show (swr _ _ _ _).length = _; rw [swr_len]; exact y6⟩
      · first | (show y.1 - y.2.1 + y.2.1 < _; omega) | (show y.1 + (y.2.1 - y.1) < _; omega)
  · try simp only [Z.a, Z.b, Z.c, Z.d, Z.e, Z.f, Z.g, Z.h, Z.i, Z.j, Z.k, Z.l, Z.m] at h1
    have heq : y.1 = y.2.1 := by omega
    refine RO.nil ?_
    refine Runs.condF rfl ?_
    refine Runs.exit ?_
    refine thenQ_exit ?_
    refine thenQ_exit ?_
    refine blockQ_here ?_
    refine thenQ_normal ?_
    refine Runs.has [(0, .own 0 _), (2, .d (.int _ _)), (4, .fn 19 _), (10, .d (.int _ _))] ⟨rfl, rfl, rfl, rfl, trivial⟩ ?_
    refine Runs.region ?_
    refine RO.opv (v' := .own 0 _) (opv_move rfl) rfl ?_
    refine RO.opv (v' := .d (.int _ _)) (opv_move rfl) rfl ?_
    refine RO.opv (v' := .d (.int _ _)) (opv_move rfl) rfl ?_
    refine RO.opv (v' := .d (.int _ _)) (opv_arith (r := ((m - y.1 : Nat) : Int)) rfl rfl (by simp only [binD, if_true]; rw [wrap64 (by omega) (by omega)]; congr 2; omega)) rfl ?_
    refine RO.opv (v' := .d (.int _ _)) (opv_move rfl) rfl ?_
    refine RO.opv (v' := .d (.int _ _)) (opv_move rfl) rfl ?_
    refine RO.opv (v' := .fn 19 _) (opv_move rfl) rfl ?_
    refine RO.opn (O' := [_]) (opv_callP 1 (swap_fn y.2.2 v (m - y.1) m y.1 (by omega) (by omega) (by omega)) rfl rfl (Nat.le_of_ble_eq_true rfl) rfl (AV.bds_of_B _ rfl)) rfl rfl ?_
    refine RO.nil ?_
    refine EndQ.none (.inl rfl) rfl 1 (by exact Nat.le_refl _) (by simp) ⟨rfl, ?_⟩
    · rw [← y1, ← heq, rot_even y3 (by omega)]; rfl
set_option maxHeartbeats 4000000 in
theorem sym_aux  : ∀ (n : Nat) (l : List Term) (v a m b : Nat), b - a ≤ n → a < m → m < b → b ≤ l.length → l.length ≤ 2 ^ 20 → SoT (seg l a m) → SoT (seg l m b) → (∀ x ∈ l, x.bulk ≤ 2 ^ 30) → Fn Try.prog 67 [.own 0 v, .d (.int .i64 ((a : Nat) : Int)), .d (.int .i64 ((m : Nat) : Int)), .d (.int .i64 ((b : Nat) : Int)), .fn 19 []] [.buf 24 4 (encs l) v] (.tup []) [.buf 24 4 (encs (symF l a m b)) v] := by
  intro n
  induction n with
  | zero => intro l v a m b q q1 q2; omega
  | succ n ih =>
  intro l v a m b gn g1 g2 g3 hl hs1 hs2 hbk
  refine Does.run Try.func67 rfl Try.ntmps67 rfl fun K hK => ?_
  refine Runs.seq ?_
  refine Runs.rseq ?_
  refine RO.opv (v' := .d (.int _ _)) (opv_move rfl) rfl ?_
  refine RO.opv (v' := .d (.int _ _)) (opv_move rfl) rfl ?_
  refine RO.opv (v' := .d (.int _ _)) (opv_arith (r := ((m - a : Nat) : Int)) rfl rfl (by simp only [binD, if_true]; rw [wrap64 (by omega) (by omega)]; congr 2; omega)) rfl ?_
  refine RO.opc (opv_bin rfl rfl rfl) (fun h1 => ?_) (fun h1 => ?_)
  · try simp only [Z.a, Z.b, Z.c, Z.d, Z.e, Z.f, Z.g, Z.h, Z.i, Z.j, Z.k, Z.l, Z.m] at h1
    have e1 : m = a + 1 := by omega
    subst e1
    obtain ⟨X, hgX⟩ : ∃ X, l[a]? = some X := ⟨_, List.getElem?_eq_getElem (by omega)⟩
    refine RO.nil ?_
    refine Runs.condT rfl ?_
    refine Runs.has [(0, .own 0 _), (1, .d (.int _ _)), (2, .d (.int _ _)), (3, .d (.int _ _)), (4, .fn 19 _)] ⟨rfl, rfl, rfl, rfl, rfl, trivial⟩ ?_
    refine Runs.rseq ?_
    refine RO.opv (v' := .d (.int _ _)) (opv_move rfl) rfl ?_
    refine RO.opv (v' := .d (.int _ _)) (opv_assign rfl) rfl ?_
    refine RO.nil ?_
    refine Runs.has [(0, .own 0 _), (1, .d (.int _ _)), (2, .d (.int _ _)), (3, .d (.int _ _)), (4, .fn 19 _), (10, .d (.int _ _))] ⟨rfl, rfl, rfl, rfl, rfl, rfl, trivial⟩ ?_
    refine Runs.rseq ?_
    refine RO.opv (v' := .d (.int _ _)) (opv_move rfl) rfl ?_
    refine RO.opv (v' := .d (.int _ _)) (opv_assign rfl) rfl ?_
    refine RO.nil ?_
    refine Runs.has [(0, .own 0 _), (1, .d (.int _ _)), (2, .d (.int _ _)), (3, .d (.int _ _)), (4, .fn 19 _), (10, .d (.int _ _)), (11, .d (.int _ _))] ⟨rfl, rfl, rfl, rfl, rfl, rfl, rfl, trivial⟩ ?_
    refine Runs.seq ?_
    refine Runs.block ?_
    refine Runs.loopC (X := (Nat × Nat)) (fun y => a + 1 ≤ y.1 ∧ y.1 ≤ y.2 ∧ y.2 ≤ b ∧ (∀ p z, a + 1 ≤ p → p < y.1 → l[p]? = some z → compareT z X < 0) ∧ (∀ p z, y.2 ≤ p → p < b → l[p]? = some z → compareT X z ≤ 0)) (fun y => y.2 - y.1) [(0, .own 0 _), (1, .d (.int _ _)), (2, .d (.int _ _)), (3, .d (.int _ _)), (4, .fn 19 _)] (fun y => [(10, .d (.int .i64 ((y.1 : Nat) : Int))), (11, .d (.int .i64 ((y.2 : Nat) : Int)))]) [] (fun y => [.buf 24 4 (encs l) v]) ((a + 1, b)) ⟨rfl, rfl, rfl, rfl, rfl, trivial⟩ ⟨rfl, rfl, trivial⟩ rfl ⟨Nat.le_refl _, by show a + 1 ≤ b; omega, Nat.le_refl _, fun p z q1 q2 _ => absurd q2 (by show ¬ p < a + 1; omega), fun p z q1 q2 _ => absurd q2 (by have : b ≤ p := q1; omega)⟩ fun y hy => ?_
    obtain ⟨y1, y2, y3, y4, y5⟩ := hy
    refine Runs.seq ?_
    refine Runs.rseq ?_
    refine RO.opv (v' := .d (.int _ _)) (opv_move rfl) rfl ?_
    refine RO.opv (v' := .d (.int _ _)) (opv_move rfl) rfl ?_
    refine RO.opc (opv_bin rfl rfl rfl) (fun h2 => ?_) (fun h2 => ?_)
    · try simp only [Z.a, Z.b, Z.c, Z.d, Z.e, Z.f, Z.g, Z.h, Z.i, Z.j, Z.k, Z.l, Z.m] at h2
      have hij : y.1 < y.2 := by omega
      obtain ⟨h, hh⟩ : ∃ h, h = (y.1 + y.2) / 2 := ⟨_, rfl⟩
      have hh1 : y.1 ≤ h ∧ h < y.2 := by omega
      have hsh : (y.1 + y.2) >>> 1 = h := by rw [Nat.shiftRight_eq_div_pow, Nat.pow_one]; omega
      obtain ⟨Y, hgY⟩ : ∃ Y, l[h]? = some Y := ⟨_, List.getElem?_eq_getElem (by omega)⟩
      refine RO.nil ?_
      refine Runs.condT rfl ?_
      refine Runs.skip ?_
      refine thenQ_normal ?_
      refine Runs.block ?_
      refine Runs.has [(0, .own 0 _), (1, .d (.int _ _)), (2, .d (.int _ _)), (3, .d (.int _ _)), (4, .fn 19 _), (10, .d (.int _ _)), (11, .d (.int _ _))] ⟨rfl, rfl, rfl, rfl, rfl, rfl, rfl, trivial⟩ ?_
      refine Runs.rseq ?_
      refine RO.opv (v' := .d (.int _ _)) (opv_move rfl) rfl ?_
      refine RO.opv (v' := .d (.int _ _)) (opv_move rfl) rfl ?_
      refine RO.opv (v' := .d (.int _ _)) (opv_arith (r := ((y.1 + y.2 : Nat) : Int)) rfl rfl (by simp only [binD, if_true]; rw [wrap64 (by omega) (by omega)]; congr 2)) rfl ?_
      refine RO.opv (v' := .d (.int _ _)) (opv_conv (r := ((y.1 + y.2 : Nat) : Int)) rfl (wrapu (by omega) (by omega))) rfl ?_
      refine RO.opv (v' := .d (.int _ _)) (opv_shr (b := 1) rfl rfl (by decide)) rfl ?_
      refine RO.opv (v' := .d (.int _ _)) (opv_conv (r := ((h : Nat) : Int)) rfl (by rw [hsh]; exact wrap64 (by omega) (by omega))) rfl ?_
      refine RO.opv (v' := .d (.int _ _)) (opv_assign rfl) rfl ?_
      refine RO.nil ?_
      refine Runs.has [(0, .own 0 _), (1, .d (.int _ _)), (2, .d (.int _ _)), (3, .d (.int _ _)), (4, .fn 19 _), (10, .d (.int _ _)), (11, .d (.int _ _)), (12, .d (.int _ _))] ⟨rfl, rfl, rfl, rfl, rfl, rfl, rfl, rfl, trivial⟩ ?_
      refine Runs.seq ?_
      refine Runs.drawn (by kernel_rfl) [] [false, false, false, false, false, false, false, false, false, false, false] [false, false, false, false, false, false, false, false, false, false, false] (by decide +kernel) ?_
      refine RD.opv (v' := .fn 19 _) (opv_move rfl) rfl ?_
      refine RD.opv (v' := .own 0 _) (opv_move rfl) rfl ?_
      refine RD.opv (v' := .d (.int _ _)) (opv_move rfl) rfl ?_
      refine RD.opv (v' := .oel 0 _ _ 0) (opv_index_oterm rfl rfl rfl (by omega)) rfl ?_
      refine RD.opv (v' := .d (enc _)) (opv_load_oterm rfl rfl hgY) rfl ?_
      refine RD.opv (v' := .own 0 _) (opv_move rfl) rfl ?_
      refine RD.opv (v' := .d (.int _ _)) (opv_move rfl) rfl ?_
      refine RD.opv (v' := .oel 0 _ _ 0) (opv_index_oterm rfl rfl rfl (by omega)) rfl ?_
      refine RD.opv (v' := .d (enc _)) (opv_load_oterm rfl rfl hgX) rfl ?_
      refine RD.opv (v' := .d (.int _ _)) (opv_callF (compare_fn Y X (hbk Y (List.mem_of_getElem? hgY)) (hbk X (List.mem_of_getElem? hgX))) rfl rfl rfl trivial) rfl ?_
      refine RD.opc (opv_bin rfl rfl rfl) (fun h3 => ?_) (fun h3 => ?_)
      · try simp only [Z.a, Z.b, Z.c, Z.d, Z.e, Z.f, Z.g, Z.h, Z.i, Z.j, Z.k, Z.l, Z.m] at h3
        have hc : compareT Y X < 0 := by omega
        refine RD.nil ?_
        refine thenQ_normal ?_
        refine Runs.condT rfl ?_
        refine Runs.has [(0, .own 0 _), (1, .d (.int _ _)), (2, .d (.int _ _)), (3, .d (.int _ _)), (4, .fn 19 _), (10, .d (.int _ _)), (11, .d (.int _ _)), (12, .d (.int _ _))] ⟨rfl, rfl, rfl, rfl, rfl, rfl, rfl, rfl, trivial⟩ ?_
        refine Runs.region ?_
        refine RO.opv (v' := .d (.int _ _)) (opv_move rfl) rfl ?_
        refine RO.opv (v' := .d (.int _ _)) (opv_arith (r := ((h + 1 : Nat) : Int)) rfl rfl (by simp only [binD, if_true]; rw [wrap64 (by omega) (by omega)]; congr 2)) rfl ?_
        refine RO.opv (v' := .d (.int _ _)) (opv_assign rfl) rfl ?_
        refine RO.nil ?_
        refine blockQ_normal ?_
        refine thenQ_normal ?_
        refine ⟨(h + 1, y.2), 1, (by rw [hK]; exact Nat.le_of_ble_eq_true rfl), ⟨rfl, rfl, rfl, rfl, rfl, trivial⟩, ⟨?_, ?_, trivial⟩, rfl, ?_, ?_⟩
        · rfl
        · rfl
        · refine ⟨by show a + 1 ≤ h + 1; omega, by show h + 1 ≤ y.2; omega, y3, fun p z q1 q2 hz => cT_le_lt (so_seg hs2 q1 (show p ≤ h by have : p < h + 1 := q2; omega) (by omega) hz hgY) hc, y5⟩
        · first | (show y.2 - (h + 1) < _; omega) | (show h - y.1 < _; omega)
      · try simp only [Z.a, Z.b, Z.c, Z.d, Z.e, Z.f, Z.g, Z.h, Z.i, Z.j, Z.k, Z.l, Z.m] at h3
        have hc : ¬ compareT Y X < 0 := by omega
        refine RD.nil ?_
        refine thenQ_normal ?_
        refine Runs.condF rfl ?_
        refine Runs.has [(0, .own 0 _), (1, .d (.int _ _)), (2, .d (.int _ _)), (3, .d (.int _ _)), (4, .fn 19 _), (10, .d (.int _ _)), (11, .d (.int _ _)), (12, .d (.int _ _))] ⟨rfl, rfl, rfl, rfl, rfl, rfl, rfl, rfl, trivial⟩ ?_
        refine Runs.region ?_
        refine RO.opv (v' := .d (.int _ _)) (opv_move rfl) rfl ?_
        refine RO.opv (v' := .d (.int _ _)) (opv_assign rfl) rfl ?_
        refine RO.nil ?_
        refine blockQ_normal ?_
        refine thenQ_normal ?_
        refine ⟨(y.1, h), 1, (by rw [hK]; exact Nat.le_of_ble_eq_true rfl), ⟨rfl, rfl, rfl, rfl, rfl, trivial⟩, ⟨?_, ?_, trivial⟩, rfl, ?_, ?_⟩
        · rfl
        · rfl
        · refine ⟨y1, by show y.1 ≤ h; omega, by show h ≤ b; omega, y4, fun p z q1 q2 hz => cT_le (show compareT X Y ≤ 0 by have := cT_neg X Y; omega) (so_seg hs2 (by omega) (show h ≤ p from q1) q2 hgY hz)⟩
        · first | (show y.2 - (h + 1) < _; omega) | (show h - y.1 < _; omega)
    · try simp only [Z.a, Z.b, Z.c, Z.d, Z.e, Z.f, Z.g, Z.h, Z.i, Z.j, Z.k, Z.l, Z.m] at h2
      have hij : y.1 = y.2 := by omega
      refine RO.nil ?_
      refine Runs.condF rfl ?_
      refine Runs.exit ?_
      refine thenQ_exit ?_
      refine thenQ_exit ?_
      refine blockQ_here ?_
      refine thenQ_normal ?_
      refine Runs.has [(0, .own 0 _), (1, .d (.int _ _)), (2, .d (.int _ _)), (3, .d (.int _ _)), (4, .fn 19 _), (10, .d (.int _ _))] ⟨rfl, rfl, rfl, rfl, rfl, rfl, trivial⟩ ?_
      refine Runs.seq ?_
      refine Runs.rseq ?_
      refine RO.opv (v' := .d (.int _ _)) (opv_move rfl) rfl ?_
      refine RO.opv (v' := .d (.int _ _)) (opv_assign rfl) rfl ?_
      refine RO.nil ?_
      refine Runs.block ?_
      refine Runs.loopC (X := Nat) (fun k => a ≤ k ∧ k + 1 ≤ y.1) (fun k => y.1 - k) [(0, .own 0 _), (1, .d (.int _ _)), (2, .d (.int _ _)), (3, .d (.int _ _)), (4, .fn 19 _), (10, .d (.int _ _))] (fun k => [(13, .d (.int .i64 ((k : Nat) : Int)))]) [] (fun k => [.buf 24 4 (encs (rotF l a (a + 1) (k + 1))) v]) (a) ⟨rfl, rfl, rfl, rfl, rfl, rfl, trivial⟩ ⟨rfl, trivial⟩ (by rw [rotF_id2 (by omega) (by omega)]) ⟨Nat.le_refl _, by omega⟩ fun k hk0 => ?_
      refine Runs.seq ?_
      refine Runs.rseq ?_
      refine RO.opv (v' := .d (.int _ _)) (opv_move rfl) rfl ?_
      refine RO.opv (v' := .d (.int _ _)) (opv_move rfl) rfl ?_
      refine RO.opv (v' := .d (.int _ _)) (opv_arith (r := ((y.1 - 1 : Nat) : Int)) rfl rfl (by simp only [binD, if_true]; rw [wrap64 (by omega) (by omega)]; congr 2; omega)) rfl ?_
      refine RO.opc (opv_bin rfl rfl rfl) (fun h4 => ?_) (fun h4 => ?_)
      · try simp only [Z.a, Z.b, Z.c, Z.d, Z.e, Z.f, Z.g, Z.h, Z.i, Z.j, Z.k, Z.l, Z.m] at h4
        have hk : k + 1 < y.1 := by omega
        have hrl := rotF_len (l := l) (a := a) (m := a + 1) (b := k + 1) (by omega) (by omega) (by omega)
        obtain ⟨B, hgB⟩ : ∃ B, l[k + 1]? = some B := ⟨_, List.getElem?_eq_getElem (by omega)⟩
        have hgA := rot1_at (k := k) hk0.1 (by omega) hgX
        have hgB2 := rot1_behind (a := a) hk0.1 (by omega) hgB
        refine RO.nil ?_
        refine Runs.condT rfl ?_
        refine Runs.skip ?_
        refine thenQ_normal ?_
        refine Runs.has [(0, .own 0 _), (1, .d (.int _ _)), (2, .d (.int _ _)), (3, .d (.int _ _)), (4, .fn 19 _), (10, .d (.int _ _)), (13, .d (.int _ _))] ⟨rfl, rfl, rfl, rfl, rfl, rfl, rfl, trivial⟩ ?_
        refine Runs.seq ?_
        refine Runs.block ?_
        refine Runs.drawn (by kernel_rfl) [] [false, false, true, true, true, false, false, false, false, false, false, false, false, false, false, false, false, false] [false, false, false, false, false, false, false, false, false, false, false, false, false, false, false, true, false, true] (by decide +kernel) ?_
        refine RD.opv (v' := .own 0 _) (opv_move rfl) rfl ?_
        refine RD.opv (v' := .d (.int _ _)) (opv_move rfl) rfl ?_
        refine RD.opa (v' := .own 0 _) (fun O' hkeep => opv_move rfl) rfl ?_
        refine RD.opa (v' := .d (.int _ _)) (fun O' hkeep => opv_move rfl) rfl ?_
        refine RD.opa (v' := .d (.int _ _)) (fun O' hkeep => opv_arith (r := ((k + 1 : Nat) : Int)) rfl rfl (by simp only [binD, if_true]; rw [wrap64 (by omega) (by omega)]; congr 2)) rfl ?_
        refine RD.opv (v' := .own 0 _) (opv_move rfl) rfl ?_
        refine RD.opv (v' := .d (.int _ _)) (opv_move rfl) rfl ?_
        refine RD.opv (v' := .d (.int _ _)) (opv_arith (r := ((k + 1 : Nat) : Int)) rfl rfl (by simp only [binD, if_true]; rw [wrap64 (by omega) (by omega)]; congr 2)) rfl ?_
        refine RD.opv (v' := .oel 0 _ _ 0) (opv_index_oterm rfl rfl rfl (by rw [hrl]; omega)) rfl ?_
        refine RD.opv (v' := .d (enc _)) (opv_load_oterm rfl rfl hgB2) rfl ?_
        refine RD.opv (v' := .own 0 _) (opv_move rfl) rfl ?_
        refine RD.opv (v' := .d (.int _ _)) (opv_move rfl) rfl ?_
        refine RD.opv (v' := .oel 0 _ _ 0) (opv_index_oterm rfl rfl rfl (by rw [hrl]; omega)) rfl ?_
        refine RD.opv (v' := .d (enc _)) (opv_load_oterm rfl rfl hgA) rfl ?_
        refine RD.opv (v' := .oel 0 _ _ 0) (opv_index_oterm rfl rfl rfl (by rw [hrl]; omega)) rfl ?_
        refine RD.op0n (O' := [_]) (opv_store_oterm rfl rfl rfl (by rw [hrl]; omega)) rfl trivial ?_
        refine RD.opv (v' := .oel 0 _ _ 0) (opv_index_oterm rfl rfl rfl (by rw [List.length_set, hrl]; omega)) rfl ?_
        refine RD.op0n (O' := [_]) (opv_store_oterm rfl rfl rfl (by rw [List.length_set, hrl]; omega)) rfl trivial ?_
        refine RD.nil ?_
        refine blockQ_normal ?_
        refine thenQ_normal ?_
        refine Runs.has [(0, .own 0 _), (1, .d (.int _ _)), (2, .d (.int _ _)), (3, .d (.int _ _)), (4, .fn 19 _), (10, .d (.int _ _)), (13, .d (.int _ _))] ⟨rfl, rfl, rfl, rfl, rfl, rfl, rfl, trivial⟩ ?_
        refine Runs.region ?_
        refine RO.opv (v' := .d (.int _ _)) (opv_move rfl) rfl ?_
        refine RO.opv (v' := .d (.int _ _)) (opv_bin rfl rfl rfl) rfl ?_
        refine RO.opv (v' := .d (.int _ _)) (opv_assign rfl) rfl ?_
        refine RO.nil ?_
        refine thenQ_normal ?_
        refine ⟨k + 1, 1, (by rw [hK]; exact Nat.le_of_ble_eq_true rfl), ⟨rfl, rfl, rfl, rfl, rfl, rfl, trivial⟩, ⟨?_, trivial⟩, ?_, ?_, ?_⟩
        · refine int_eq ?_; rw [wrap64 (by omega) (by omega)]; omega
        · rw [rot1_next hk0.1 (by omega) hgX hgB]; rfl
        · exact ⟨by omega, by omega⟩
        · omega
      · try simp only [Z.a, Z.b, Z.c, Z.d, Z.e, Z.f, Z.g, Z.h, Z.i, Z.j, Z.k, Z.l, Z.m] at h4
        have hk : k + 1 = y.1 := by omega
        refine RO.nil ?_
        refine Runs.condF rfl ?_
        refine Runs.exit ?_
        refine thenQ_exit ?_
        refine thenQ_exit ?_
        refine blockQ_here ?_
        refine thenQ_normal ?_
        refine Runs.ret ?_
        refine thenQ_ret ?_
        refine EndQ.none (.inr rfl) rfl 1 (by exact Nat.le_refl _) (by simp) ⟨rfl, ?_⟩
        · first | (rw [hk, sym_one1 y1 (by omega) g3 hgX (all_seg y4) (all_seg (by rw [hij]; exact y5))] <;> rfl) | (rw [← hk, sym_one2 y1 (by omega) hgX (all_seg y4) (all_seg (by rw [hij]; exact y5))] <;> rfl) | (rw [← k1] <;> rfl) | (rw [← k1, hS2] <;> rfl) | (rw [← k1, hS2, hS1] <;> rfl) | (rw [← k1, hS2, hS1, hR] <;> rfl) | (rw [← k1, hS1] <;> rfl) | (rw [← k1, hS1, hR] <;> rfl) | (rw [← k1, hS2, hR] <;> rfl) | (rw [← k1, hR] <;> rfl)
  · try simp only [Z.a, Z.b, Z.c, Z.d, Z.e, Z.f, Z.g, Z.h, Z.i, Z.j, Z.k, Z.l, Z.m] at h1
    have e1 : ¬ m = a + 1 := by omega
    refine RO.nil ?_
    refine Runs.condF rfl ?_
    refine Runs.skip ?_
    refine thenQ_normal ?_
    refine Runs.has [(0, .own 0 _), (1, .d (.int _ _)), (2, .d (.int _ _)), (3, .d (.int _ _)), (4, .fn 19 _)] ⟨rfl, rfl, rfl, rfl, rfl, trivial⟩ ?_
    refine Runs.seq ?_
    refine Runs.rseq ?_
    refine RO.opv (v' := .d (.int _ _)) (opv_move rfl) rfl ?_
    refine RO.opv (v' := .d (.int _ _)) (opv_move rfl) rfl ?_
    refine RO.opv (v' := .d (.int _ _)) (opv_arith (r := ((b - m : Nat) : Int)) rfl rfl (by simp only [binD, if_true]; rw [wrap64 (by omega) (by omega)]; congr 2; omega)) rfl ?_
    refine RO.opc (opv_bin rfl rfl rfl) (fun h5 => ?_) (fun h5 => ?_)
    · try simp only [Z.a, Z.b, Z.c, Z.d, Z.e, Z.f, Z.g, Z.h, Z.i, Z.j, Z.k, Z.l, Z.m] at h5
      have e2 : b = m + 1 := by omega
      subst e2
      obtain ⟨X, hgX⟩ : ∃ X, l[m]? = some X := ⟨_, List.getElem?_eq_getElem (by omega)⟩
      refine RO.nil ?_
      refine Runs.condT rfl ?_
      refine Runs.has [(0, .own 0 _), (1, .d (.int _ _)), (2, .d (.int _ _)), (3, .d (.int _ _)), (4, .fn 19 _)] ⟨rfl, rfl, rfl, rfl, rfl, trivial⟩ ?_
      refine Runs.rseq ?_
      refine RO.opv (v' := .d (.int _ _)) (opv_move rfl) rfl ?_
      refine RO.opv (v' := .d (.int _ _)) (opv_assign rfl) rfl ?_
      refine RO.nil ?_
      refine Runs.has [(0, .own 0 _), (1, .d (.int _ _)), (2, .d (.int _ _)), (3, .d (.int _ _)), (4, .fn 19 _), (14, .d (.int _ _))] ⟨rfl, rfl, rfl, rfl, rfl, rfl, trivial⟩ ?_
      refine Runs.rseq ?_
      refine RO.opv (v' := .d (.int _ _)) (opv_move rfl) rfl ?_
      refine RO.opv (v' := .d (.int _ _)) (opv_assign rfl) rfl ?_
      refine RO.nil ?_
      refine Runs.has [(0, .own 0 _), (1, .d (.int _ _)), (2, .d (.int _ _)), (3, .d (.int _ _)), (4, .fn 19 _), (14, .d (.int _ _)), (15, .d (.int _ _))] ⟨rfl, rfl, rfl, rfl, rfl, rfl, rfl, trivial⟩ ?_
      refine Runs.seq ?_
      refine Runs.block ?_
      refine Runs.loopC (X := (Nat × Nat)) (fun y => a ≤ y.1 ∧ y.1 ≤ y.2 ∧ y.2 ≤ m ∧ (∀ p z, a ≤ p → p < y.1 → l[p]? = some z → compareT z X ≤ 0) ∧ (∀ p z, y.2 ≤ p → p < m → l[p]? = some z → compareT X z < 0)) (fun y => y.2 - y.1) [(0, .own 0 _), (1, .d (.int _ _)), (2, .d (.int _ _)), (3, .d (.int _ _)), (4, .fn 19 _)] (fun y => [(14, .d (.int .i64 ((y.1 : Nat) : Int))), (15, .d (.int .i64 ((y.2 : Nat) : Int)))]) [] (fun y => [.buf 24 4 (encs l) v]) ((a, m)) ⟨rfl, rfl, rfl, rfl, rfl, trivial⟩ ⟨rfl, rfl, trivial⟩ rfl ⟨Nat.le_refl _, by show a ≤ m; omega, Nat.le_refl _, fun p z q1 q2 _ => absurd q2 (by show ¬ p < a; omega), fun p z q1 q2 _ => absurd q2 (by have : m ≤ p := q1; omega)⟩ fun y hy => ?_
      obtain ⟨y1, y2, y3, y4, y5⟩ := hy
      refine Runs.seq ?_
      refine Runs.rseq ?_
      refine RO.opv (v' := .d (.int _ _)) (opv_move rfl) rfl ?_
      refine RO.opv (v' := .d (.int _ _)) (opv_move rfl) rfl ?_
      refine RO.opc (opv_bin rfl rfl rfl) (fun h6 => ?_) (fun h6 => ?_)
      · try simp only [Z.a, Z.b, Z.c, Z.d, Z.e, Z.f, Z.g, Z.h, Z.i, Z.j, Z.k, Z.l, Z.m] at h6
        have hij : y.1 < y.2 := by omega
        obtain ⟨h, hh⟩ : ∃ h, h = (y.1 + y.2) / 2 := ⟨_, rfl⟩
        have hh1 : y.1 ≤ h ∧ h < y.2 := by omega
        have hsh : (y.1 + y.2) >>> 1 = h := by rw [Nat.shiftRight_eq_div_pow, Nat.pow_one]; omega
        obtain ⟨Y, hgY⟩ : ∃ Y, l[h]? = some Y := ⟨_, List.getElem?_eq_getElem (by omega)⟩
        refine RO.nil ?_
        refine Runs.condT rfl ?_
        refine Runs.skip ?_
        refine thenQ_normal ?_
        refine Runs.block ?_
        refine Runs.has [(0, .own 0 _), (1, .d (.int _ _)), (2, .d (.int _ _)), (3, .d (.int _ _)), (4, .fn 19 _), (14, .d (.int _ _)), (15, .d (.int _ _))] ⟨rfl, rfl, rfl, rfl, rfl, rfl, rfl, trivial⟩ ?_
        refine Runs.rseq ?_
        refine RO.opv (v' := .d (.int _ _)) (opv_move rfl) rfl ?_
        refine RO.opv (v' := .d (.int _ _)) (opv_move rfl) rfl ?_
        refine RO.opv (v' := .d (.int _ _)) (opv_arith (r := ((y.1 + y.2 : Nat) : Int)) rfl rfl (by simp only [binD, if_true]; rw [wrap64 (by omega) (by omega)]; congr 2)) rfl ?_
        refine RO.opv (v' := .d (.int _ _)) (opv_conv (r := ((y.1 + y.2 : Nat) : Int)) rfl (wrapu (by omega) (by omega))) rfl ?_
        refine RO.opv (v' := .d (.int _ _)) (opv_shr (b := 1) rfl rfl (by decide)) rfl ?_
        refine RO.opv (v' := .d (.int _ _)) (opv_conv (r := ((h : Nat) : Int)) rfl (by rw [hsh]; exact wrap64 (by omega) (by omega))) rfl ?_
        refine RO.opv (v' := .d (.int _ _)) (opv_assign rfl) rfl ?_
        refine RO.nil ?_
        refine Runs.has [(0, .own 0 _), (1, .d (.int _ _)), (2, .d (.int _ _)), (3, .d (.int _ _)), (4, .fn 19 _), (14, .d (.int _ _)), (15, .d (.int _ _)), (16, .d (.int _ _))] ⟨rfl, rfl, rfl, rfl, rfl, rfl, rfl, rfl, trivial⟩ ?_
        refine Runs.seq ?_
        refine Runs.drawn (by kernel_rfl) [] [false, false, false, false, false, false, false, false, false, false, false, false] [false, false, false, false, false, false, false, false, false, false, false, false] (by decide +kernel) ?_
        refine RD.opv (v' := .fn 19 _) (opv_move rfl) rfl ?_
        refine RD.opv (v' := .own 0 _) (opv_move rfl) rfl ?_
        refine RD.opv (v' := .d (.int _ _)) (opv_move rfl) rfl ?_
        refine RD.opv (v' := .oel 0 _ _ 0) (opv_index_oterm rfl rfl rfl (by omega)) rfl ?_
        refine RD.opv (v' := .d (enc _)) (opv_load_oterm rfl rfl hgX) rfl ?_
        refine RD.opv (v' := .own 0 _) (opv_move rfl) rfl ?_
        refine RD.opv (v' := .d (.int _ _)) (opv_move rfl) rfl ?_
        refine RD.opv (v' := .oel 0 _ _ 0) (opv_index_oterm rfl rfl rfl (by omega)) rfl ?_
        refine RD.opv (v' := .d (enc _)) (opv_load_oterm rfl rfl hgY) rfl ?_
        refine RD.opv (v' := .d (.int _ _)) (opv_callF (compare_fn X Y (hbk X (List.mem_of_getElem? hgX)) (hbk Y (List.mem_of_getElem? hgY))) rfl rfl rfl trivial) rfl ?_
        refine RD.opv (v' := .d (.bool _)) (opv_bin rfl rfl rfl) rfl ?_
        refine RD.opc (opv_not rfl rfl) (fun h7 => ?_) (fun h7 => ?_)
        · try simp only [Z.a, Z.b, Z.c, Z.d, Z.e, Z.f, Z.g, Z.h, Z.i, Z.j, Z.k, Z.l, Z.m] at h7
          have hc : ¬ compareT X Y < 0 := by omega
          refine RD.nil ?_
          refine thenQ_normal ?_
          refine Runs.condT rfl ?_
          refine Runs.has [(0, .own 0 _), (1, .d (.int _ _)), (2, .d (.int _ _)), (3, .d (.int _ _)), (4, .fn 19 _), (14, .d (.int _ _)), (15, .d (.int _ _)), (16, .d (.int _ _))] ⟨rfl, rfl, rfl, rfl, rfl, rfl, rfl, rfl, trivial⟩ ?_
          refine Runs.region ?_
          refine RO.opv (v' := .d (.int _ _)) (opv_move rfl) rfl ?_
          refine RO.opv (v' := .d (.int _ _)) (opv_arith (r := ((h + 1 : Nat) : Int)) rfl rfl (by simp only [binD, if_true]; rw [wrap64 (by omega) (by omega)]; congr 2)) rfl ?_
          refine RO.opv (v' := .d (.int _ _)) (opv_assign rfl) rfl ?_
          refine RO.nil ?_
          refine blockQ_normal ?_
          refine thenQ_normal ?_
          refine ⟨(h + 1, y.2), 1, (by rw [hK]; exact Nat.le_of_ble_eq_true rfl), ⟨rfl, rfl, rfl, rfl, rfl, trivial⟩, ⟨?_, ?_, trivial⟩, rfl, ?_, ?_⟩
          · rfl
          · rfl
          · refine ⟨by show a ≤ h + 1; omega, by show h + 1 ≤ y.2; omega, y3, fun p z q1 q2 hz => cT_le (so_seg hs1 q1 (show p ≤ h by have : p < h + 1 := q2; omega) (by omega) hz hgY) (by have := cT_neg X Y; omega), y5⟩
          · first | (show y.2 - (h + 1) < _; omega) | (show h - y.1 < _; omega)
        · try simp only [Z.a, Z.b, Z.c, Z.d, Z.e, Z.f, Z.g, Z.h, Z.i, Z.j, Z.k, Z.l, Z.m] at h7
          have hc : compareT X Y < 0 := by omega
          refine RD.nil ?_
          refine thenQ_normal ?_
          refine Runs.condF rfl ?_
          refine Runs.has [(0, .own 0 _), (1, .d (.int _ _)), (2, .d (.int _ _)), (3, .d (.int _ _)), (4, .fn 19 _), (14, .d (.int _ _)), (15, .d (.int _ _)), (16, .d (.int _ _))] ⟨rfl, rfl, rfl, rfl, rfl, rfl, rfl, rfl, trivial⟩ ?_
          refine Runs.region ?_
          refine RO.opv (v' := .d (.int _ _)) (opv_move rfl) rfl ?_
          refine RO.opv (v' := .d (.int _ _)) (opv_assign rfl) rfl ?_
          refine RO.nil ?_
          refine blockQ_normal ?_
          refine thenQ_normal ?_
          refine ⟨(y.1, h), 1, (by rw [hK]; exact Nat.le_of_ble_eq_true rfl), ⟨rfl, rfl, rfl, rfl, rfl, trivial⟩, ⟨?_, ?_, trivial⟩, rfl, ?_, ?_⟩
          · rfl
          · rfl
          · refine ⟨y1, by show y.1 ≤ h; omega, by show h ≤ m; omega, y4, fun p z q1 q2 hz => cT_lt_le hc (so_seg hs1 (by omega) (show h ≤ p from q1) q2 hgY hz)⟩
          · first | (show y.2 - (h + 1) < _; omega) | (show h - y.1 < _; omega)
      · try simp only [Z.a, Z.b, Z.c, Z.d, Z.e, Z.f, Z.g, Z.h, Z.i, Z.j, Z.k, Z.l, Z.m] at h6
        have hij : y.1 = y.2 := by omega
        refine RO.nil ?_
        refine Runs.condF rfl ?_
        refine Runs.exit ?_
        refine thenQ_exit ?_
        refine thenQ_exit ?_
        refine blockQ_here ?_
        refine thenQ_normal ?_
        refine Runs.has [(0, .own 0 _), (1, .d (.int _ _)), (2, .d (.int _ _)), (3, .d (.int _ _)), (4, .fn 19 _), (14, .d (.int _ _))] ⟨rfl, rfl, rfl, rfl, rfl, rfl, trivial⟩ ?_
        refine Runs.seq ?_
        refine Runs.rseq ?_
        refine RO.opv (v' := .d (.int _ _)) (opv_move rfl) rfl ?_
        refine RO.opv (v' := .d (.int _ _)) (opv_assign rfl) rfl ?_
        refine RO.nil ?_
        refine Runs.block ?_
        refine Runs.loopC (X := Nat) (fun k => y.1 ≤ k ∧ k ≤ m) (fun k => k) [(0, .own 0 _), (1, .d (.int _ _)), (2, .d (.int _ _)), (3, .d (.int _ _)), (4, .fn 19 _), (14, .d (.int _ _))] (fun k => [(17, .d (.int .i64 ((k : Nat) : Int)))]) [] (fun k => [.buf 24 4 (encs (rotF l k m (m + 1))) v]) (m) ⟨rfl, rfl, rfl, rfl, rfl, rfl, trivial⟩ ⟨rfl, trivial⟩ (by rw [rotF_id1 (by omega) (by omega)]) ⟨by omega, Nat.le_refl _⟩ fun k hk0 => ?_
        refine Runs.seq ?_
        refine Runs.rseq ?_
        refine RO.opv (v' := .d (.int _ _)) (opv_move rfl) rfl ?_
        refine RO.opv (v' := .d (.int _ _)) (opv_move rfl) rfl ?_
        refine RO.opc (opv_bin rfl rfl rfl) (fun h8 => ?_) (fun h8 => ?_)
        · try simp only [Z.a, Z.b, Z.c, Z.d, Z.e, Z.f, Z.g, Z.h, Z.i, Z.j, Z.k, Z.l, Z.m] at h8
          have hk : y.1 < k := by omega
          obtain ⟨k', hk'⟩ : ∃ k', k = k' + 1 := ⟨k - 1, by omega⟩
          have hrl := rotF_len (l := l) (a := k) (m := m) (b := m + 1) (by omega) (by omega) (by omega)
          obtain ⟨B, hgB⟩ : ∃ B, l[k']? = some B := ⟨_, List.getElem?_eq_getElem (by omega)⟩
          have hgA := rot2_at (k := k) (by omega) (by omega) hgX
          have hgB2 : (rotF l k m (m + 1))[k']? = some B := by rw [hk']; exact rot2_ahead (by omega) (by omega) hgB
          refine RO.nil ?_
          refine Runs.condT rfl ?_
          refine Runs.skip ?_
          refine thenQ_normal ?_
          refine Runs.has [(0, .own 0 _), (1, .d (.int _ _)), (2, .d (.int _ _)), (3, .d (.int _ _)), (4, .fn 19 _), (14, .d (.int _ _)), (17, .d (.int _ _))] ⟨rfl, rfl, rfl, rfl, rfl, rfl, rfl, trivial⟩ ?_
          refine Runs.seq ?_
          refine Runs.block ?_
          refine Runs.drawn (by kernel_rfl) [] [false, false, true, true, true, false, false, false, false, false, false, false, false, false, false, false, false, false] [false, false, false, false, false, false, false, false, false, false, false, false, false, false, false, true, false, true] (by decide +kernel) ?_
          refine RD.opv (v' := .own 0 _) (opv_move rfl) rfl ?_
          refine RD.opv (v' := .d (.int _ _)) (opv_move rfl) rfl ?_
          refine RD.opa (v' := .own 0 _) (fun O' hkeep => opv_move rfl) rfl ?_
          refine RD.opa (v' := .d (.int _ _)) (fun O' hkeep => opv_move rfl) rfl ?_
          refine RD.opa (v' := .d (.int _ _)) (fun O' hkeep => opv_arith (r := ((k' : Nat) : Int)) rfl rfl (by simp only [binD, if_true]; rw [wrap64 (by omega) (by omega)]; congr 2; omega)) rfl ?_
          refine RD.opv (v' := .own 0 _) (opv_move rfl) rfl ?_
          refine RD.opv (v' := .d (.int _ _)) (opv_move rfl) rfl ?_
          refine RD.opv (v' := .d (.int _ _)) (opv_arith (r := ((k' : Nat) : Int)) rfl rfl (by simp only [binD, if_true]; rw [wrap64 (by omega) (by omega)]; congr 2; omega)) rfl ?_
          refine RD.opv (v' := .oel 0 _ _ 0) (opv_index_oterm rfl rfl rfl (by rw [hrl]; omega)) rfl ?_
          refine RD.opv (v' := .d (enc _)) (opv_load_oterm rfl rfl hgB2) rfl ?_
          refine RD.opv (v' := .own 0 _) (opv_move rfl) rfl ?_
          refine RD.opv (v' := .d (.int _ _)) (opv_move rfl) rfl ?_
          refine RD.opv (v' := .oel 0 _ _ 0) (opv_index_oterm rfl rfl rfl (by rw [hrl]; omega)) rfl ?_
          refine RD.opv (v' := .d (enc _)) (opv_load_oterm rfl rfl hgA) rfl ?_
          refine RD.opv (v' := .oel 0 _ _ 0) (opv_index_oterm rfl rfl rfl (by rw [hrl]; omega)) rfl ?_
          refine RD.op0n (O' := [_]) (opv_store_oterm rfl rfl rfl (by rw [hrl]; omega)) rfl trivial ?_
          refine RD.opv (v' := .oel 0 _ _ 0) (opv_index_oterm rfl rfl rfl (by rw [List.length_set, hrl]; omega)) rfl ?_
          refine RD.op0n (O' := [_]) (opv_store_oterm rfl rfl rfl (by rw [List.length_set, hrl]; omega)) rfl trivial ?_
          refine RD.nil ?_
          refine blockQ_normal ?_
          refine thenQ_normal ?_
          refine Runs.has [(0, .own 0 _), (1, .d (.int _ _)), (2, .d (.int _ _)), (3, .d (.int _ _)), (4, .fn 19 _), (14, .d (.int _ _)), (17, .d (.int _ _))] ⟨rfl, rfl, rfl, rfl, rfl, rfl, rfl, trivial⟩ ?_
          refine Runs.region ?_
          refine RO.opv (v' := .d (.int _ _)) (opv_move rfl) rfl ?_
          refine RO.opv (v' := .d (.int _ _)) (opv_bin rfl rfl rfl) rfl ?_
          refine RO.opv (v' := .d (.int _ _)) (opv_assign rfl) rfl ?_
          refine RO.nil ?_
          refine thenQ_normal ?_
          refine ⟨k', 1, (by rw [hK]; exact Nat.le_of_ble_eq_true rfl), ⟨rfl, rfl, rfl, rfl, rfl, rfl, trivial⟩, ⟨?_, trivial⟩, ?_, ?_, ?_⟩
          · refine int_eq ?_; rw [wrap64 (by omega) (by omega)]; omega
          · rw [rot2_next (by omega) (by omega) hgX hgB, hk']; rfl
          · exact ⟨by omega, by omega⟩
          · omega
        · try simp only [Z.a, Z.b, Z.c, Z.d, Z.e, Z.f, Z.g, Z.h, Z.i, Z.j, Z.k, Z.l, Z.m] at h8
          have hk : y.1 = k := by omega
          refine RO.nil ?_
          refine Runs.condF rfl ?_
          refine Runs.exit ?_
          refine thenQ_exit ?_
          refine thenQ_exit ?_
          refine blockQ_here ?_
          refine thenQ_normal ?_
          refine Runs.ret ?_
          refine thenQ_ret ?_
          refine EndQ.none (.inr rfl) rfl 1 (by exact Nat.le_refl _) (by simp) ⟨rfl, ?_⟩
          · first | (rw [hk, sym_one1 y1 (by omega) g3 hgX (all_seg y4) (all_seg (by rw [hij]; exact y5))] <;> rfl) | (rw [← hk, sym_one2 y1 (by omega) hgX (all_seg y4) (all_seg (by rw [hij]; exact y5))] <;> rfl) | (rw [← k1] <;> rfl) | (rw [← k1, hS2] <;> rfl) | (rw [← k1, hS2, hS1] <;> rfl) | (rw [← k1, hS2, hS1, hR] <;> rfl) | (rw [← k1, hS1] <;> rfl) | (rw [← k1, hS1, hR] <;> rfl) | (rw [← k1, hS2, hR] <;> rfl) | (rw [← k1, hR] <;> rfl)
    · try simp only [Z.a, Z.b, Z.c, Z.d, Z.e, Z.f, Z.g, Z.h, Z.i, Z.j, Z.k, Z.l, Z.m] at h5
      have e2 : ¬ b = m + 1 := by omega
      obtain ⟨mid, hmid⟩ : ∃ mid, mid = (a + b) / 2 := ⟨_, rfl⟩
      have hsh2 : (a + b) >>> 1 = mid := by rw [Nat.shiftRight_eq_div_pow, Nat.pow_one]; omega
      refine RO.nil ?_
      refine Runs.condF rfl ?_
      refine Runs.skip ?_
      refine thenQ_normal ?_
      refine Runs.has [(0, .own 0 _), (1, .d (.int _ _)), (2, .d (.int _ _)), (3, .d (.int _ _)), (4, .fn 19 _)] ⟨rfl, rfl, rfl, rfl, rfl, trivial⟩ ?_
      refine Runs.rseq ?_
      refine RO.opv (v' := .d (.int _ _)) (opv_move rfl) rfl ?_
      refine RO.opv (v' := .d (.int _ _)) (opv_move rfl) rfl ?_
      refine RO.opv (v' := .d (.int _ _)) (opv_arith (r := ((a + b : Nat) : Int)) rfl rfl (by simp only [binD, if_true]; rw [wrap64 (by omega) (by omega)]; congr 2)) rfl ?_
      refine RO.opv (v' := .d (.int _ _)) (opv_conv (r := ((a + b : Nat) : Int)) rfl (wrapu (by omega) (by omega))) rfl ?_
      refine RO.opv (v' := .d (.int _ _)) (opv_shr (b := 1) rfl rfl (by decide)) rfl ?_
      refine RO.opv (v' := .d (.int _ _)) (opv_conv (r := ((mid : Nat) : Int)) rfl (by rw [hsh2]; exact wrap64 (by omega) (by omega))) rfl ?_
      refine RO.opv (v' := .d (.int _ _)) (opv_assign rfl) rfl ?_
      refine RO.nil ?_
      refine Runs.has [(0, .own 0 _), (1, .d (.int _ _)), (2, .d (.int _ _)), (3, .d (.int _ _)), (4, .fn 19 _), (18, .d (.int _ _))] ⟨rfl, rfl, rfl, rfl, rfl, rfl, trivial⟩ ?_
      refine Runs.rseq ?_
      refine RO.opv (v' := .d (.int _ _)) (opv_move rfl) rfl ?_
      refine RO.opv (v' := .d (.int _ _)) (opv_move rfl) rfl ?_
      refine RO.opv (v' := .d (.int _ _)) (opv_arith (r := ((mid + m : Nat) : Int)) rfl rfl (by simp only [binD, if_true]; rw [wrap64 (by omega) (by omega)]; congr 2)) rfl ?_
      refine RO.opv (v' := .d (.int _ _)) (opv_assign rfl) rfl ?_
      refine RO.nil ?_
      refine Runs.has [(0, .own 0 _), (1, .d (.int _ _)), (2, .d (.int _ _)), (3, .d (.int _ _)), (4, .fn 19 _), (18, .d (.int _ _)), (19, .d (.int _ _))] ⟨rfl, rfl, rfl, rfl, rfl, rfl, rfl, trivial⟩ ?_
      refine Runs.rseq ?_
      refine RO.opv (v' := .d (.int _ _)) (opv_assign rfl) rfl ?_
      refine RO.opv (v' := .d (.int _ _)) (opv_assign rfl) rfl ?_
      refine RO.nil ?_
      refine Runs.seq ?_
      refine Runs.rseq ?_
      refine RO.opv (v' := .d (.int _ _)) (opv_move rfl) rfl ?_
      refine RO.opv (v' := .d (.int _ _)) (opv_move rfl) rfl ?_
      refine RO.opc (opv_bin rfl rfl rfl) (fun h9 => ?_) (fun h9 => ?_)
      · try simp only [Z.a, Z.b, Z.c, Z.d, Z.e, Z.f, Z.g, Z.h, Z.i, Z.j, Z.k, Z.l, Z.m] at h9
        have hmm : mid < m := by omega
        refine RO.nil ?_
        refine Runs.condT rfl ?_
        refine Runs.has [(0, .own 0 _), (1, .d (.int _ _)), (2, .d (.int _ _)), (3, .d (.int _ _)), (4, .fn 19 _), (18, .d (.int _ _)), (19, .d (.int _ _)), (20, .d (.int _ _)), (21, .d (.int _ _))] ⟨rfl, rfl, rfl, rfl, rfl, rfl, rfl, rfl, rfl, trivial⟩ ?_
        refine Runs.rseq ?_
        refine RO.opv (v' := .d (.int _ _)) (opv_move rfl) rfl ?_
        refine RO.opv (v' := .d (.int _ _)) (opv_move rfl) rfl ?_
        refine RO.opv (v' := .d (.int _ _)) (opv_arith (r := ((mid + m - b : Nat) : Int)) rfl rfl (by simp only [binD, if_true]; rw [wrap64 (by omega) (by omega)]; congr 2; omega)) rfl ?_
        refine RO.opv (v' := .d (.int _ _)) (opv_assign rfl) rfl ?_
        refine RO.nil ?_
        refine Runs.has [(0, .own 0 _), (1, .d (.int _ _)), (2, .d (.int _ _)), (3, .d (.int _ _)), (4, .fn 19 _), (18, .d (.int _ _)), (19, .d (.int _ _)), (20, .d (.int _ _)), (21, .d (.int _ _))] ⟨rfl, rfl, rfl, rfl, rfl, rfl, rfl, rfl, rfl, trivial⟩ ?_
        refine Runs.region ?_
        refine RO.opv (v' := .d (.int _ _)) (opv_move rfl) rfl ?_
        refine RO.opv (v' := .d (.int _ _)) (opv_assign rfl) rfl ?_
        refine RO.nil ?_
        refine thenQ_normal ?_
        refine Runs.has [(0, .own 0 _), (1, .d (.int _ _)), (2, .d (.int _ _)), (3, .d (.int _ _)), (4, .fn 19 _), (18, .d (.int _ _)), (19, .d (.int _ _)), (20, .d (.int _ _)), (21, .d (.int _ _))] ⟨rfl, rfl, rfl, rfl, rfl, rfl, rfl, rfl, rfl, trivial⟩ ?_
        refine Runs.rseq ?_
        refine RO.opv (v' := .d (.int _ _)) (opv_move rfl) rfl ?_
        refine RO.opv (v' := .d (.int _ _)) (opv_arith (r := ((mid + m - 1 : Nat) : Int)) rfl rfl (by simp only [binD, if_true]; rw [wrap64 (by omega) (by omega)]; congr 2; omega)) rfl ?_
        refine RO.opv (v' := .d (.int _ _)) (opv_assign rfl) rfl ?_
        refine RO.nil ?_
        refine Runs.has [(0, .own 0 _), (1, .d (.int _ _)), (2, .d (.int _ _)), (3, .d (.int _ _)), (4, .fn 19 _), (18, .d (.int _ _)), (19, .d (.int _ _)), (20, .d (.int _ _)), (21, .d (.int _ _)), (22, .d (.int _ _))] ⟨rfl, rfl, rfl, rfl, rfl, rfl, rfl, rfl, rfl, rfl, trivial⟩ ?_
        refine Runs.seq ?_
        refine Runs.block ?_
        refine Runs.loopC (X := (Nat × Nat)) (fun y => a ≤ y.1 ∧ y.1 ≤ y.2 ∧ y.2 ≤ m ∧ y.2 ≤ mid ∧ mid + m - y.1 ≤ b ∧ LeAt l a y.1 (mid + m - y.1) b ∧ LtAt l y.2 m (mid + m - y.2)) (fun y => y.2 - y.1) [(0, .own 0 _), (1, .d (.int _ _)), (2, .d (.int _ _)), (3, .d (.int _ _)), (4, .fn 19 _), (18, .d (.int _ _)), (19, .d (.int _ _)), (22, .d (.int _ _))] (fun y => [(20, .d (.int .i64 ((y.1 : Nat) : Int))), (21, .d (.int .i64 ((y.2 : Nat) : Int)))]) [] (fun y => [.buf 24 4 (encs l) v]) ((mid + m - b, mid)) ⟨rfl, rfl, rfl, rfl, rfl, rfl, rfl, rfl, trivial⟩ ⟨rfl, rfl, trivial⟩ rfl ⟨by show a ≤ mid + m - b; omega, by show mid + m - b ≤ mid; omega, by show mid ≤ m; omega, by show mid ≤ mid; omega, by show mid + m - (mid + m - b) ≤ b; omega, fun q1 q2 => absurd q2 (by show ¬ mid + m - (mid + m - b) < b; omega), fun q1 q2 => absurd q2 (by show ¬ m < mid + m - mid; omega)⟩ fun y hy => ?_
        obtain ⟨y1, y2, y3, y4, y5, y6, y7⟩ := hy
        refine Runs.seq ?_
        refine Runs.rseq ?_
        refine RO.opv (v' := .d (.int _ _)) (opv_move rfl) rfl ?_
        refine RO.opv (v' := .d (.int _ _)) (opv_move rfl) rfl ?_
        refine RO.opc (opv_bin rfl rfl rfl) (fun h10 => ?_) (fun h10 => ?_)
        · try simp only [Z.a, Z.b, Z.c, Z.d, Z.e, Z.f, Z.g, Z.h, Z.i, Z.j, Z.k, Z.l, Z.m] at h10
          have hij : y.1 < y.2 := by omega
          obtain ⟨h, hh⟩ : ∃ h, h = (y.1 + y.2) / 2 := ⟨_, rfl⟩
          have hh1 : y.1 ≤ h ∧ h < y.2 := by omega
          have hsh : (y.1 + y.2) >>> 1 = h := by rw [Nat.shiftRight_eq_div_pow, Nat.pow_one]; omega
          obtain ⟨Y, hgY⟩ : ∃ Y, l[h]? = some Y := ⟨_, List.getElem?_eq_getElem (by omega)⟩
          obtain ⟨U, hgU⟩ : ∃ U, l[mid + m - 1 - h]? = some U := ⟨_, List.getElem?_eq_getElem (by omega)⟩
          refine RO.nil ?_
          refine Runs.condT rfl ?_
          refine Runs.skip ?_
          refine thenQ_normal ?_
          refine Runs.block ?_
          refine Runs.has [(0, .own 0 _), (1, .d (.int _ _)), (2, .d (.int _ _)), (3, .d (.int _ _)), (4, .fn 19 _), (18, .d (.int _ _)), (19, .d (.int _ _)), (20, .d (.int _ _)), (21, .d (.int _ _)), (22, .d (.int _ _))] ⟨rfl, rfl, rfl, rfl, rfl, rfl, rfl, rfl, rfl, rfl, trivial⟩ ?_
          refine Runs.rseq ?_
          refine RO.opv (v' := .d (.int _ _)) (opv_move rfl) rfl ?_
          refine RO.opv (v' := .d (.int _ _)) (opv_move rfl) rfl ?_
          refine RO.opv (v' := .d (.int _ _)) (opv_arith (r := ((y.1 + y.2 : Nat) : Int)) rfl rfl (by simp only [binD, if_true]; rw [wrap64 (by omega) (by omega)]; congr 2)) rfl ?_
          refine RO.opv (v' := .d (.int _ _)) (opv_conv (r := ((y.1 + y.2 : Nat) : Int)) rfl (wrapu (by omega) (by omega))) rfl ?_
          refine RO.opv (v' := .d (.int _ _)) (opv_shr (b := 1) rfl rfl (by decide)) rfl ?_
          refine RO.opv (v' := .d (.int _ _)) (opv_conv (r := ((h : Nat) : Int)) rfl (by rw [hsh]; exact wrap64 (by omega) (by omega))) rfl ?_
          refine RO.opv (v' := .d (.int _ _)) (opv_assign rfl) rfl ?_
          refine RO.nil ?_
          refine Runs.has [(0, .own 0 _), (1, .d (.int _ _)), (2, .d (.int _ _)), (3, .d (.int _ _)), (4, .fn 19 _), (18, .d (.int _ _)), (19, .d (.int _ _)), (20, .d (.int _ _)), (21, .d (.int _ _)), (22, .d (.int _ _)), (23, .d (.int _ _))] ⟨rfl, rfl, rfl, rfl, rfl, rfl, rfl, rfl, rfl, rfl, rfl, trivial⟩ ?_
          refine Runs.seq ?_
          refine Runs.drawn (by kernel_rfl) [] [false, false, false, false, false, false, false, false, false, false, false, false, false, false] [false, false, false, false, false, false, false, false, false, false, false, false, false, false] (by decide +kernel) ?_
          refine RD.opv (v' := .fn 19 _) (opv_move rfl) rfl ?_
          refine RD.opv (v' := .own 0 _) (opv_move rfl) rfl ?_
          refine RD.opv (v' := .d (.int _ _)) (opv_move rfl) rfl ?_
          refine RD.opv (v' := .d (.int _ _)) (opv_move rfl) rfl ?_
          refine RD.opv (v' := .d (.int _ _)) (opv_arith (r := ((mid + m - 1 - h : Nat) : Int)) rfl rfl (by simp only [binD, if_true]; rw [wrap64 (by omega) (by omega)]; congr 2; omega)) rfl ?_
          refine RD.opv (v' := .oel 0 _ _ 0) (opv_index_oterm rfl rfl rfl (by omega)) rfl ?_
          refine RD.opv (v' := .d (enc _)) (opv_load_oterm rfl rfl hgU) rfl ?_
          refine RD.opv (v' := .own 0 _) (opv_move rfl) rfl ?_
          refine RD.opv (v' := .d (.int _ _)) (opv_move rfl) rfl ?_
          refine RD.opv (v' := .oel 0 _ _ 0) (opv_index_oterm rfl rfl rfl (by omega)) rfl ?_
          refine RD.opv (v' := .d (enc _)) (opv_load_oterm rfl rfl hgY) rfl ?_
          refine RD.opv (v' := .d (.int _ _)) (opv_callF (compare_fn U Y (hbk U (List.mem_of_getElem? hgU)) (hbk Y (List.mem_of_getElem? hgY))) rfl rfl rfl trivial) rfl ?_
          refine RD.opv (v' := .d (.bool _)) (opv_bin rfl rfl rfl) rfl ?_
          refine RD.opc (opv_not rfl rfl) (fun h11 => ?_) (fun h11 => ?_)
          · try simp only [Z.a, Z.b, Z.c, Z.d, Z.e, Z.f, Z.g, Z.h, Z.i, Z.j, Z.k, Z.l, Z.m] at h11
            have hc : ¬ compareT U Y < 0 := by omega
            refine RD.nil ?_
            refine thenQ_normal ?_
            refine Runs.condT rfl ?_
            refine Runs.has [(0, .own 0 _), (1, .d (.int _ _)), (2, .d (.int _ _)), (3, .d (.int _ _)), (4, .fn 19 _), (18, .d (.int _ _)), (19, .d (.int _ _)), (20, .d (.int _ _)), (21, .d (.int _ _)), (22, .d (.int _ _)), (23, .d (.int _ _))] ⟨rfl, rfl, rfl, rfl, rfl, rfl, rfl, rfl, rfl, rfl, rfl, trivial⟩ ?_
            refine Runs.region ?_
            refine RO.opv (v' := .d (.int _ _)) (opv_move rfl) rfl ?_
            refine RO.opv (v' := .d (.int _ _)) (opv_arith (r := ((h + 1 : Nat) : Int)) rfl rfl (by simp only [binD, if_true]; rw [wrap64 (by omega) (by omega)]; congr 2)) rfl ?_
            refine RO.opv (v' := .d (.int _ _)) (opv_assign rfl) rfl ?_
            refine RO.nil ?_
            refine blockQ_normal ?_
            refine thenQ_normal ?_
            refine ⟨(h + 1, y.2), 1, (by rw [hK]; exact Nat.le_of_ble_eq_true rfl), ⟨rfl, rfl, rfl, rfl, rfl, rfl, rfl, rfl, trivial⟩, ⟨?_, ?_, trivial⟩, rfl, ?_, ?_⟩
            · rfl
            · rfl
            · refine ⟨by show a ≤ h + 1; omega, by show h + 1 ≤ y.2; omega, y3, y4, by show mid + m - (h + 1) ≤ b; omega, fun _ _ => ⟨Y, U, by show l[h + 1 - 1]? = _; rw [Nat.add_sub_cancel]; exact hgY, by show l[mid + m - (h + 1)]? = _; rw [← hgU]; congr 1; omega, by have := cT_neg Y U; omega⟩, y7⟩
            · first | (show y.2 - (h + 1) < _; omega) | (show h - y.1 < _; omega)
          · try simp only [Z.a, Z.b, Z.c, Z.d, Z.e, Z.f, Z.g, Z.h, Z.i, Z.j, Z.k, Z.l, Z.m] at h11
            have hc : compareT U Y < 0 := by omega
            refine RD.nil ?_
            refine thenQ_normal ?_
            refine Runs.condF rfl ?_
            refine Runs.has [(0, .own 0 _), (1, .d (.int _ _)), (2, .d (.int _ _)), (3, .d (.int _ _)), (4, .fn 19 _), (18, .d (.int _ _)), (19, .d (.int _ _)), (20, .d (.int _ _)), (21, .d (.int _ _)), (22, .d (.int _ _)), (23, .d (.int _ _))] ⟨rfl, rfl, rfl, rfl, rfl, rfl, rfl, rfl, rfl, rfl, rfl, trivial⟩ ?_
            refine Runs.region ?_
            refine RO.opv (v' := .d (.int _ _)) (opv_move rfl) rfl ?_
            refine RO.opv (v' := .d (.int _ _)) (opv_assign rfl) rfl ?_
            refine RO.nil ?_
            refine blockQ_normal ?_
            refine thenQ_normal ?_
            refine ⟨(y.1, h), 1, (by rw [hK]; exact Nat.le_of_ble_eq_true rfl), ⟨rfl, rfl, rfl, rfl, rfl, rfl, rfl, rfl, trivial⟩, ⟨?_, ?_, trivial⟩, rfl, ?_, ?_⟩
            · rfl
            · rfl
            · refine ⟨y1, by show y.1 ≤ h; omega, by show h ≤ m; omega, by show h ≤ mid; omega, y5, y6, fun _ _ => ⟨Y, U, hgY, by show l[mid + m - h - 1]? = _; rw [← hgU]; congr 1; omega, hc⟩⟩
            · first | (show y.2 - (h + 1) < _; omega) | (show h - y.1 < _; omega)
        · try simp only [Z.a, Z.b, Z.c, Z.d, Z.e, Z.f, Z.g, Z.h, Z.i, Z.j, Z.k, Z.l, Z.m] at h10
          have hse : y.1 = y.2 := by omega
          obtain ⟨e, he⟩ : ∃ e, e = mid + m - y.1 := ⟨_, rfl⟩
          rw [← he] at y5 y6
          rw [← hse, ← he] at y7
          have hc1 := search_le (e := e) y1 (by omega) (by omega) y5 g3 hs1 hs2 y6
          have hc2 := search_lt (e := e) y1 (by omega) (by omega) y5 g3 hs1 hs2 y7
          obtain ⟨k1, k2, k3, k4, k5⟩ := sym_step (mid := mid) y1 (by omega) (by omega) y5 g3 (by omega) hc1 hc2
          have sA := so_left (k := y.1) y1 (by omega) (by omega) hs1
          have sB := so_left (k := e) (by omega) y5 g3 hs2
          have hrl := rotF_len (l := l) (a := y.1) (m := m) (b := e) (by omega) (by omega) (by omega)
          have hrb : ∀ x ∈ rotF l y.1 m e, x.bulk ≤ 2 ^ 30 := fun x hx => hbk x (rotF_mem hx)
          have hsl := symF_len (l := rotF l y.1 m e) (a := a) (m := y.1) (b := mid) (by omega) (by omega) (by omega)
          have hsb : ∀ x ∈ symF (rotF l y.1 m e) a y.1 mid, x.bulk ≤ 2 ^ 30 := fun x hx => hrb x (symF_mem hx)
          refine RO.nil ?_
          refine Runs.condF rfl ?_
          refine Runs.exit ?_
          refine thenQ_exit ?_
          refine thenQ_exit ?_
          refine blockQ_here ?_
          refine thenQ_normal ?_
          refine Runs.has [(0, .own 0 _), (1, .d (.int _ _)), (2, .d (.int _ _)), (3, .d (.int _ _)), (4, .fn 19 _), (18, .d (.int _ _)), (19, .d (.int _ _)), (20, .d (.int _ _))] ⟨rfl, rfl, rfl, rfl, rfl, rfl, rfl, rfl, trivial⟩ ?_
          refine Runs.rseq ?_
          refine RO.opv (v' := .d (.int _ _)) (opv_move rfl) rfl ?_
          refine RO.opv (v' := .d (.int _ _)) (opv_move rfl) rfl ?_
          refine RO.opv (v' := .d (.int _ _)) (opv_arith (r := ((e : Nat) : Int)) rfl rfl (by simp only [binD, if_true]; rw [wrap64 (by omega) (by omega)]; congr 2; omega)) rfl ?_
          refine RO.opv (v' := .d (.int _ _)) (opv_assign rfl) rfl ?_
          refine RO.nil ?_
          refine Runs.has [(0, .own 0 _), (1, .d (.int _ _)), (2, .d (.int _ _)), (3, .d (.int _ _)), (4, .fn 19 _), (18, .d (.int _ _)), (20, .d (.int _ _)), (24, .d (.int _ _))] ⟨rfl, rfl, rfl, rfl, rfl, rfl, rfl, rfl, trivial⟩ ?_
          refine Runs.seq ?_
          refine Runs.rseq ?_
          refine RO.opv (v' := .d (.int _ _)) (opv_move rfl) rfl ?_
          refine RO.opv (v' := .d (.int _ _)) (opv_move rfl) rfl ?_
          refine RO.opv (v' := .d (.bool _)) (opv_bin rfl rfl rfl) rfl ?_
          refine RO.opc (opv_move rfl) (fun h12 => ?_) (fun h12 => ?_)
          · try simp only [Z.a, Z.b, Z.c, Z.d, Z.e, Z.f, Z.g, Z.h, Z.i, Z.j, Z.k, Z.l, Z.m] at h12
            skip
            refine RO.opgv (v' := .d (.int _ _)) rfl (opv_move rfl) rfl ?_
            refine RO.opgv (v' := .d (.int _ _)) rfl (opv_move rfl) rfl ?_
            refine RO.opgv (v' := .d (.bool _)) rfl (opv_bin rfl rfl rfl) rfl ?_
            refine RO.opc (opv_pick rfl rfl) (fun h13 => ?_) (fun h13 => ?_)
            · try simp only [Z.a, Z.b, Z.c, Z.d, Z.e, Z.f, Z.g, Z.h, Z.i, Z.j, Z.k, Z.l, Z.m] at h13
              skip
              refine RO.nil ?_
              refine Runs.condT rfl ?_
              refine Runs.has [(0, .own 0 _), (1, .d (.int _ _)), (2, .d (.int _ _)), (3, .d (.int _ _)), (4, .fn 19 _), (18, .d (.int _ _)), (20, .d (.int _ _)), (24, .d (.int _ _))] ⟨rfl, rfl, rfl, rfl, rfl, rfl, rfl, rfl, trivial⟩ ?_
              refine Runs.region ?_
              refine RO.opv (v' := .own 0 _) (opv_move rfl) rfl ?_
              refine RO.opv (v' := .d (.int _ _)) (opv_move rfl) rfl ?_
              refine RO.opv (v' := .d (.int _ _)) (opv_move rfl) rfl ?_
              refine RO.opv (v' := .d (.int _ _)) (opv_move rfl) rfl ?_
              refine RO.opv (v' := .fn 19 _) (opv_move rfl) rfl ?_
              refine RO.opn (O' := [_]) (opv_callP 1 (rot_fn l v y.1 m e (by omega) (by omega) (by omega) hl) rfl rfl (Nat.le_of_ble_eq_true rfl) rfl (AV.bds_of_B _ rfl)) rfl rfl ?_
              refine RO.nil ?_
              refine thenQ_normal ?_
              refine Runs.has [(0, .own 0 _), (1, .d (.int _ _)), (3, .d (.int _ _)), (4, .fn 19 _), (18, .d (.int _ _)), (20, .d (.int _ _)), (24, .d (.int _ _))] ⟨rfl, rfl, rfl, rfl, rfl, rfl, rfl, trivial⟩ ?_
              refine Runs.seq ?_
              refine Runs.rseq ?_
              refine RO.opv (v' := .d (.int _ _)) (opv_move rfl) rfl ?_
              refine RO.opv (v' := .d (.int _ _)) (opv_move rfl) rfl ?_
              refine RO.opv (v' := .d (.bool _)) (opv_bin rfl rfl rfl) rfl ?_
              refine RO.opc (opv_move rfl) (fun h14 => ?_) (fun h14 => ?_)
              · try simp only [Z.a, Z.b, Z.c, Z.d, Z.e, Z.f, Z.g, Z.h, Z.i, Z.j, Z.k, Z.l, Z.m] at h14
                skip
                refine RO.opgv (v' := .d (.int _ _)) rfl (opv_move rfl) rfl ?_
                refine RO.opgv (v' := .d (.int _ _)) rfl (opv_move rfl) rfl ?_
                refine RO.opgv (v' := .d (.bool _)) rfl (opv_bin rfl rfl rfl) rfl ?_
                refine RO.opc (opv_pick rfl rfl) (fun h15 => ?_) (fun h15 => ?_)
                · try simp only [Z.a, Z.b, Z.c, Z.d, Z.e, Z.f, Z.g, Z.h, Z.i, Z.j, Z.k, Z.l, Z.m] at h15
                  skip
                  refine RO.nil ?_
                  refine Runs.condT rfl ?_
                  refine Runs.has [(0, .own 0 _), (1, .d (.int _ _)), (3, .d (.int _ _)), (4, .fn 19 _), (18, .d (.int _ _)), (20, .d (.int _ _)), (24, .d (.int _ _))] ⟨rfl, rfl, rfl, rfl, rfl, rfl, rfl, trivial⟩ ?_
                  refine Runs.region ?_
                  refine RO.opv (v' := .own 0 _) (opv_move rfl) rfl ?_
                  refine RO.opv (v' := .d (.int _ _)) (opv_move rfl) rfl ?_
                  refine RO.opv (v' := .d (.int _ _)) (opv_move rfl) rfl ?_
                  refine RO.opv (v' := .d (.int _ _)) (opv_move rfl) rfl ?_
                  refine RO.opv (v' := .fn 19 _) (opv_move rfl) rfl ?_
                  refine RO.opn (O' := [_]) (opv_callP 1 (ih _ v a y.1 mid (by omega) (by omega) (by omega) (by first | omega | (rw [hrl]; omega) | (rw [hsl, hrl]; omega) | (rw [hR] at hsl; rw [hsl]; omega)) (by first | omega | (rw [hrl]; omega) | (rw [hsl, hrl]; omega) | (rw [hR] at hsl; rw [hsl]; omega)) (by first | exact sA.1 | (rw [k2]; exact sA.1) | (rw [hR] at k2; rw [k2]; exact sA.1) | (rw [hS1] at k2; rw [k2]; exact sA.1) | (rw [hS1, hR] at k2; rw [k2]; exact sA.1)) (by first | exact sB.1 | (rw [k3]; exact sB.1) | (rw [hR] at k3; rw [k3]; exact sB.1) | (rw [hS1] at k3; rw [k3]; exact sB.1) | (rw [hS1, hR] at k3; rw [k3]; exact sB.1)) (by first | exact hbk | exact hrb | exact hsb | (rw [hR] at hsb; exact hsb))) rfl rfl (Nat.le_of_ble_eq_true rfl) rfl (AV.bds_of_B _ rfl)) rfl rfl ?_
                  refine RO.nil ?_
                  refine thenQ_normal ?_
                  refine Runs.has [(0, .own 0 _), (3, .d (.int _ _)), (4, .fn 19 _), (18, .d (.int _ _)), (24, .d (.int _ _))] ⟨rfl, rfl, rfl, rfl, rfl, trivial⟩ ?_
                  refine Runs.rseq ?_
                  refine RO.opv (v' := .d (.int _ _)) (opv_move rfl) rfl ?_
                  refine RO.opv (v' := .d (.int _ _)) (opv_move rfl) rfl ?_
                  refine RO.opv (v' := .d (.bool _)) (opv_bin rfl rfl rfl) rfl ?_
                  refine RO.opc (opv_move rfl) (fun h16 => ?_) (fun h16 => ?_)
                  · try simp only [Z.a, Z.b, Z.c, Z.d, Z.e, Z.f, Z.g, Z.h, Z.i, Z.j, Z.k, Z.l, Z.m] at h16
                    skip
                    refine RO.opgv (v' := .d (.int _ _)) rfl (opv_move rfl) rfl ?_
                    refine RO.opgv (v' := .d (.int _ _)) rfl (opv_move rfl) rfl ?_
                    refine RO.opgv (v' := .d (.bool _)) rfl (opv_bin rfl rfl rfl) rfl ?_
                    refine RO.opc (opv_pick rfl rfl) (fun h17 => ?_) (fun h17 => ?_)
                    · try simp only [Z.a, Z.b, Z.c, Z.d, Z.e, Z.f, Z.g, Z.h, Z.i, Z.j, Z.k, Z.l, Z.m] at h17
                      skip
                      refine RO.nil ?_
                      refine Runs.condT rfl ?_
                      refine Runs.has [(0, .own 0 _), (3, .d (.int _ _)), (4, .fn 19 _), (18, .d (.int _ _)), (24, .d (.int _ _))] ⟨rfl, rfl, rfl, rfl, rfl, trivial⟩ ?_
                      refine Runs.region ?_
                      refine RO.opv (v' := .own 0 _) (opv_move rfl) rfl ?_
                      refine RO.opv (v' := .d (.int _ _)) (opv_move rfl) rfl ?_
                      refine RO.opv (v' := .d (.int _ _)) (opv_move rfl) rfl ?_
                      refine RO.opv (v' := .d (.int _ _)) (opv_move rfl) rfl ?_
                      refine RO.opv (v' := .fn 19 _) (opv_move rfl) rfl ?_
                      refine RO.opn (O' := [_]) (opv_callP 1 (ih _ v mid e b (by omega) (by omega) (by omega) (by first | omega | (rw [hrl]; omega) | (rw [hsl, hrl]; omega) | (rw [hR] at hsl; rw [hsl]; omega)) (by first | omega | (rw [hrl]; omega) | (rw [hsl, hrl]; omega) | (rw [hR] at hsl; rw [hsl]; omega)) (by first | exact sA.2 | (rw [k4]; exact sA.2) | (rw [hR] at k4; rw [k4]; exact sA.2) | (rw [hS1] at k4; rw [k4]; exact sA.2) | (rw [hS1, hR] at k4; rw [k4]; exact sA.2)) (by first | exact sB.2 | (rw [k5]; exact sB.2) | (rw [hR] at k5; rw [k5]; exact sB.2) | (rw [hS1] at k5; rw [k5]; exact sB.2) | (rw [hS1, hR] at k5; rw [k5]; exact sB.2)) (by first | exact hbk | exact hrb | exact hsb | (rw [hR] at hsb; exact hsb))) rfl rfl (Nat.le_of_ble_eq_true rfl) rfl (AV.bds_of_B _ rfl)) rfl rfl ?_
                      refine RO.nil ?_
                      refine EndQ.none (.inl rfl) rfl 1 (by exact Nat.le_refl _) (by simp) ⟨rfl, ?_⟩
                      · first | (rw [hk, sym_one1 y1 (by omega) g3 hgX (all_seg y4) (all_seg (by rw [hij]; exact y5))] <;> rfl) | (rw [← hk, sym_one2 y1 (by omega) hgX (all_seg y4) (all_seg (by rw [hij]; exact y5))] <;> rfl) | (rw [← k1] <;> rfl) | (rw [← k1, hS2] <;> rfl) | (rw [← k1, hS2, hS1] <;> rfl) | (rw [← k1, hS2, hS1, hR] <;> rfl) | (rw [← k1, hS1] <;> rfl) | (rw [← k1, hS1, hR] <;> rfl) | (rw [← k1, hS2, hR] <;> rfl) | (rw [← k1, hR] <;> rfl)
                    · try simp only [Z.a, Z.b, Z.c, Z.d, Z.e, Z.f, Z.g, Z.h, Z.i, Z.j, Z.k, Z.l, Z.m] at h17
                      have hS2 : symF (symF (rotF l y.1 m e) a y.1 mid) mid e b = symF (rotF l y.1 m e) a y.1 mid := by
                        by_cases q : e = mid
                        · exact (congrArg (fun t => symF (symF (rotF l y.1 m e) a y.1 mid) mid t b) q).trans (symF_id1 (by omega) (by rw [hsl, hrl]; omega))
                        · exact (congrArg (fun t => symF (symF (rotF l y.1 m e) a y.1 mid) mid e t) (show b = e by omega)).trans (symF_id2 (by omega) (by rw [hsl, hrl]; omega))
                      refine RO.nil ?_
                      refine Runs.condF rfl ?_
                      refine Runs.skip ?_
                      refine EndQ.none (.inl rfl) rfl 1 (by exact Nat.le_refl _) (by simp) ⟨rfl, ?_⟩
                      · first | (rw [hk, sym_one1 y1 (by omega) g3 hgX (all_seg y4) (all_seg (by rw [hij]; exact y5))] <;> rfl) | (rw [← hk, sym_one2 y1 (by omega) hgX (all_seg y4) (all_seg (by rw [hij]; exact y5))] <;> rfl) | (rw [← k1] <;> rfl) | (rw [← k1, hS2] <;> rfl) | (rw [← k1, hS2, hS1] <;> rfl) | (rw [← k1, hS2, hS1, hR] <;> rfl) | (rw [← k1, hS1] <;> rfl) | (rw [← k1, hS1, hR] <;> rfl) | (rw [← k1, hS2, hR] <;> rfl) | (rw [← k1, hR] <;> rfl)
                  · try simp only [Z.a, Z.b, Z.c, Z.d, Z.e, Z.f, Z.g, Z.h, Z.i, Z.j, Z.k, Z.l, Z.m] at h16
                    have hS2 : symF (symF (rotF l y.1 m e) a y.1 mid) mid e b = symF (rotF l y.1 m e) a y.1 mid := by
                      by_cases q : e = mid
                      · exact (congrArg (fun t => symF (symF (rotF l y.1 m e) a y.1 mid) mid t b) q).trans (symF_id1 (by omega) (by rw [hsl, hrl]; omega))
                      · exact (congrArg (fun t => symF (symF (rotF l y.1 m e) a y.1 mid) mid e t) (show b = e by omega)).trans (symF_id2 (by omega) (by rw [hsl, hrl]; omega))
                    refine RO.off rfl ?_
                    refine RO.off rfl ?_
                    refine RO.off rfl ?_
                    refine RO.opv (v' := .d (.bool false)) (opv_pick rfl rfl) rfl ?_
                    refine RO.nil ?_
                    refine Runs.condF rfl ?_
                    refine Runs.skip ?_
                    refine EndQ.none (.inl rfl) rfl 1 (by exact Nat.le_refl _) (by simp) ⟨rfl, ?_⟩
                    · first | (rw [hk, sym_one1 y1 (by omega) g3 hgX (all_seg y4) (all_seg (by rw [hij]; exact y5))] <;> rfl) | (rw [← hk, sym_one2 y1 (by omega) hgX (all_seg y4) (all_seg (by rw [hij]; exact y5))] <;> rfl) | (rw [← k1] <;> rfl) | (rw [← k1, hS2] <;> rfl) | (rw [← k1, hS2, hS1] <;> rfl) | (rw [← k1, hS2, hS1, hR] <;> rfl) | (rw [← k1, hS1] <;> rfl) | (rw [← k1, hS1, hR] <;> rfl) | (rw [← k1, hS2, hR] <;> rfl) | (rw [← k1, hR] <;> rfl)
                · try simp only [Z.a, Z.b, Z.c, Z.d, Z.e, Z.f, Z.g, Z.h, Z.i, Z.j, Z.k, Z.l, Z.m] at h15
                  have hS1 : symF (rotF l y.1 m e) a y.1 mid = rotF l y.1 m e := by
                    by_cases q : y.1 = a
                    · exact (congrArg (fun t => symF (rotF l y.1 m e) a t mid) q).trans (symF_id1 (by omega) (by rw [hrl]; omega))
                    · exact (congrArg (fun t => symF (rotF l y.1 m e) a y.1 t) (show mid = y.1 by omega)).trans (symF_id2 (by omega) (by rw [hrl]; omega))
                  refine RO.nil ?_
                  refine Runs.condF rfl ?_
                  refine Runs.skip ?_
                  refine thenQ_normal ?_
                  refine Runs.has [(0, .own 0 _), (3, .d (.int _ _)), (4, .fn 19 _), (18, .d (.int _ _)), (24, .d (.int _ _))] ⟨rfl, rfl, rfl, rfl, rfl, trivial⟩ ?_
                  refine Runs.rseq ?_
                  refine RO.opv (v' := .d (.int _ _)) (opv_move rfl) rfl ?_
                  refine RO.opv (v' := .d (.int _ _)) (opv_move rfl) rfl ?_
                  refine RO.opv (v' := .d (.bool _)) (opv_bin rfl rfl rfl) rfl ?_
                  refine RO.opc (opv_move rfl) (fun h18 => ?_) (fun h18 => ?_)
                  · try simp only [Z.a, Z.b, Z.c, Z.d, Z.e, Z.f, Z.g, Z.h, Z.i, Z.j, Z.k, Z.l, Z.m] at h18
                    skip
                    refine RO.opgv (v' := .d (.int _ _)) rfl (opv_move rfl) rfl ?_
                    refine RO.opgv (v' := .d (.int _ _)) rfl (opv_move rfl) rfl ?_
                    refine RO.opgv (v' := .d (.bool _)) rfl (opv_bin rfl rfl rfl) rfl ?_
                    refine RO.opc (opv_pick rfl rfl) (fun h19 => ?_) (fun h19 => ?_)
                    · try simp only [Z.a, Z.b, Z.c, Z.d, Z.e, Z.f, Z.g, Z.h, Z.i, Z.j, Z.k, Z.l, Z.m] at h19
                      skip
                      refine RO.nil ?_
                      refine Runs.condT rfl ?_
                      refine Runs.has [(0, .own 0 _), (3, .d (.int _ _)), (4, .fn 19 _), (18, .d (.int _ _)), (24, .d (.int _ _))] ⟨rfl, rfl, rfl, rfl, rfl, trivial⟩ ?_
                      refine Runs.region ?_
                      refine RO.opv (v' := .own 0 _) (opv_move rfl) rfl ?_
                      refine RO.opv (v' := .d (.int _ _)) (opv_move rfl) rfl ?_
                      refine RO.opv (v' := .d (.int _ _)) (opv_move rfl) rfl ?_
                      refine RO.opv (v' := .d (.int _ _)) (opv_move rfl) rfl ?_
                      refine RO.opv (v' := .fn 19 _) (opv_move rfl) rfl ?_
                      refine RO.opn (O' := [_]) (opv_callP 1 (ih _ v mid e b (by omega) (by omega) (by omega) (by first | omega | (rw [hrl]; omega) | (rw [hsl, hrl]; omega) | (rw [hR] at hsl; rw [hsl]; omega)) (by first | omega | (rw [hrl]; omega) | (rw [hsl, hrl]; omega) | (rw [hR] at hsl; rw [hsl]; omega)) (by first | exact sA.2 | (rw [k4]; exact sA.2) | (rw [hR] at k4; rw [k4]; exact sA.2) | (rw [hS1] at k4; rw [k4]; exact sA.2) | (rw [hS1, hR] at k4; rw [k4]; exact sA.2)) (by first | exact sB.2 | (rw [k5]; exact sB.2) | (rw [hR] at k5; rw [k5]; exact sB.2) | (rw [hS1] at k5; rw [k5]; exact sB.2) | (rw [hS1, hR] at k5; rw [k5]; exact sB.2)) (by first | exact hbk | exact hrb | exact hsb | (rw [hR] at hsb; exact hsb))) rfl rfl (Nat.le_of_ble_eq_true rfl) rfl (AV.bds_of_B _ rfl)) rfl rfl ?_
                      refine RO.nil ?_
                      refine EndQ.none (.inl rfl) rfl 1 (by exact Nat.le_refl _) (by simp) ⟨rfl, ?_⟩
                      · first | (rw [hk, sym_one1 y1 (by omega) g3 hgX (all_seg y4) (all_seg (by rw [hij]; exact y5))] <;> rfl) | (rw [← hk, sym_one2 y1 (by omega) hgX (all_seg y4) (all_seg (by rw [hij]; exact y5))] <;> rfl) | (rw [← k1] <;> rfl) | (rw [← k1, hS2] <;> rfl) | (rw [← k1, hS2, hS1] <;> rfl) | (rw [← k1, hS2, hS1, hR] <;> rfl) | (rw [← k1, hS1] <;> rfl) | (rw [← k1, hS1, hR] <;> rfl) | (rw [← k1, hS2, hR] <;> rfl) | (rw [← k1, hR] <;> rfl)
                    · try simp only [Z.a, Z.b, Z.c, Z.d, Z.e, Z.f, Z.g, Z.h, Z.i, Z.j, Z.k, Z.l, Z.m] at h19
                      have hS2 : symF (symF (rotF l y.1 m e) a y.1 mid) mid e b = symF (rotF l y.1 m e) a y.1 mid := by
                        by_cases q : e = mid
                        · exact (congrArg (fun t => symF (symF (rotF l y.1 m e) a y.1 mid) mid t b) q).trans (symF_id1 (by omega) (by rw [hsl, hrl]; omega))
                        · exact (congrArg (fun t => symF (symF (rotF l y.1 m e) a y.1 mid) mid e t) (show b = e by omega)).trans (symF_id2 (by omega) (by rw [hsl, hrl]; omega))
                      refine RO.nil ?_
                      refine Runs.condF rfl ?_
                      refine Runs.skip ?_
                      refine EndQ.none (.inl rfl) rfl 1 (by exact Nat.le_refl _) (by simp) ⟨rfl, ?_⟩
                      · first | (rw [hk, sym_one1 y1 (by omega) g3 hgX (all_seg y4) (all_seg (by rw [hij]; exact y5))] <;> rfl) | (rw [← hk, sym_one2 y1 (by omega) hgX (all_seg y4) (all_seg (by rw [hij]; exact y5))] <;> rfl) | (rw [← k1] <;> rfl) | (rw [← k1, hS2] <;> rfl) | (rw [← k1, hS2, hS1] <;> rfl) | (rw [← k1, hS2, hS1, hR] <;> rfl) | (rw [← k1, hS1] <;> rfl) | (rw [← k1, hS1, hR] <;> rfl) | (rw [← k1, hS2, hR] <;> rfl) | (rw [← k1, hR] <;> rfl)
                  · try simp only [Z.a, Z.b, Z.c, Z.d, Z.e, Z.f, Z.g, Z.h, Z.i, Z.j, Z.k, Z.l, Z.m] at h18
                    have hS2 : symF (symF (rotF l y.1 m e) a y.1 mid) mid e b = symF (rotF l y.1 m e) a y.1 mid := by
                      by_cases q : e = mid
                      · exact (congrArg (fun t => symF (symF (rotF l y.1 m e) a y.1 mid) mid t b) q).trans (symF_id1 (by omega) (by rw [hsl, hrl]; omega))
                      · exact (congrArg (fun t => symF (symF (rotF l y.1 m e) a y.1 mid) mid e t) (show b = e by omega)).trans (symF_id2 (by omega) (by rw [hsl, hrl]; omega))
                    refine RO.off rfl ?_
                    refine RO.off rfl ?_
                    refine RO.off rfl ?_
                    refine RO.opv (v' := .d (.bool false)) (opv_pick rfl rfl) rfl ?_
                    refine RO.nil ?_
                    refine Runs.condF rfl ?_
                    refine Runs.skip ?_
                    refine EndQ.none (.inl rfl) rfl 1 (by exact Nat.le_refl _) (by simp) ⟨rfl, ?_⟩
                    · first | (rw [hk, sym_one1 y1 (by omega) g3 hgX (all_seg y4) (all_seg (by rw [hij]; exact y5))] <;> rfl) | (rw [← hk, sym_one2 y1 (by omega) hgX (all_seg y4) (all_seg (by rw [hij]; exact y5))] <;> rfl) | (rw [← k1] <;> rfl) | (rw [← k1, hS2] <;> rfl) | (rw [← k1, hS2, hS1] <;> rfl) | (rw [← k1, hS2, hS1, hR] <;> rfl) | (rw [← k1, hS1] <;> rfl) | (rw [← k1, hS1, hR] <;> rfl) | (rw [← k1, hS2, hR] <;> rfl) | (rw [← k1, hR] <;> rfl)
              · try simp only [Z.a, Z.b, Z.c, Z.d, Z.e, Z.f, Z.g, Z.h, Z.i, Z.j, Z.k, Z.l, Z.m] at h14
                have hS1 : symF (rotF l y.1 m e) a y.1 mid = rotF l y.1 m e := by
                  by_cases q : y.1 = a
                  · exact (congrArg (fun t => symF (rotF l y.1 m e) a t mid) q).trans (symF_id1 (by omega) (by rw [hrl]; omega))
                  · exact (congrArg (fun t => symF (rotF l y.1 m e) a y.1 t) (show mid = y.1 by omega)).trans (symF_id2 (by omega) (by rw [hrl]; omega))
                refine RO.off rfl ?_
                refine RO.off rfl ?_
                refine RO.off rfl ?_
                refine RO.opv (v' := .d (.bool false)) (opv_pick rfl rfl) rfl ?_
                refine RO.nil ?_
                refine Runs.condF rfl ?_
                refine Runs.skip ?_
                refine thenQ_normal ?_
                refine Runs.has [(0, .own 0 _), (3, .d (.int _ _)), (4, .fn 19 _), (18, .d (.int _ _)), (24, .d (.int _ _))] ⟨rfl, rfl, rfl, rfl, rfl, trivial⟩ ?_
                refine Runs.rseq ?_
                refine RO.opv (v' := .d (.int _ _)) (opv_move rfl) rfl ?_
                refine RO.opv (v' := .d (.int _ _)) (opv_move rfl) rfl ?_
                refine RO.opv (v' := .d (.bool _)) (opv_bin rfl rfl rfl) rfl ?_
                refine RO.opc (opv_move rfl) (fun h20 => ?_) (fun h20 => ?_)
                · try simp only [Z.a, Z.b, Z.c, Z.d, Z.e, Z.f, Z.g, Z.h, Z.i, Z.j, Z.k, Z.l, Z.m] at h20
                  skip
                  refine RO.opgv (v' := .d (.int _ _)) rfl (opv_move rfl) rfl ?_
                  refine RO.opgv (v' := .d (.int _ _)) rfl (opv_move rfl) rfl ?_
                  refine RO.opgv (v' := .d (.bool _)) rfl (opv_bin rfl rfl rfl) rfl ?_
                  refine RO.opc (opv_pick rfl rfl) (fun h21 => ?_) (fun h21 => ?_)
                  · try simp only [Z.a, Z.b, Z.c, Z.d, Z.e, Z.f, Z.g, Z.h, Z.i, Z.j, Z.k, Z.l, Z.m] at h21
                    skip
                    refine RO.nil ?_
                    refine Runs.condT rfl ?_
                    refine Runs.has [(0, .own 0 _), (3, .d (.int _ _)), (4, .fn 19 _), (18, .d (.int _ _)), (24, .d (.int _ _))] ⟨rfl, rfl, rfl, rfl, rfl, trivial⟩ ?_
                    refine Runs.region ?_
                    refine RO.opv (v' := .own 0 _) (opv_move rfl) rfl ?_
                    refine RO.opv (v' := .d (.int _ _)) (opv_move rfl) rfl ?_
                    refine RO.opv (v' := .d (.int _ _)) (opv_move rfl) rfl ?_
                    refine RO.opv (v' := .d (.int _ _)) (opv_move rfl) rfl ?_
                    refine RO.opv (v' := .fn 19 _) (opv_move rfl) rfl ?_
                    refine RO.opn (O' := [_]) (opv_callP 1 (ih _ v mid e b (by omega) (by omega) (by omega) (by first | omega | (rw [hrl]; omega) | (rw [hsl, hrl]; omega) | (rw [hR] at hsl; rw [hsl]; omega)) (by first | omega | (rw [hrl]; omega) | (rw [hsl, hrl]; omega) | (rw [hR] at hsl; rw [hsl]; omega)) (by first | exact sA.2 | (rw [k4]; exact sA.2) | (rw [hR] at k4; rw [k4]; exact sA.2) | (rw [hS1] at k4; rw [k4]; exact sA.2) | (rw [hS1, hR] at k4; rw [k4]; exact sA.2)) (by first | exact sB.2 | (rw [k5]; exact sB.2) | (rw [hR] at k5; rw [k5]; exact sB.2) | (rw [hS1] at k5; rw [k5]; exact sB.2) | (rw [hS1, hR] at k5; rw [k5]; exact sB.2)) (by first | exact hbk | exact hrb | exact hsb | (rw [hR] at hsb; exact hsb))) rfl rfl (Nat.le_of_ble_eq_true rfl) rfl (AV.bds_of_B _ rfl)) rfl rfl ?_
                    refine RO.nil ?_
                    refine EndQ.none (.inl rfl) rfl 1 (by exact Nat.le_refl _) (by simp) ⟨rfl, ?_⟩
                    · first | (rw [hk, sym_one1 y1 (by omega) g3 hgX (all_seg y4) (all_seg (by rw [hij]; exact y5))] <;> rfl) | (rw [← hk, sym_one2 y1 (by omega) hgX (all_seg y4) (all_seg (by rw [hij]; exact y5))] <;> rfl) | (rw [← k1] <;> rfl) | (rw [← k1, hS2] <;> rfl) | (rw [← k1, hS2, hS1] <;> rfl) | (rw [← k1, hS2, hS1, hR] <;> rfl) | (rw [← k1, hS1] <;> rfl) | (rw [← k1, hS1, hR] <;> rfl) | (rw [← k1, hS2, hR] <;> rfl) | (rw [← k1, hR] <;> rfl)
                  · try simp only [Z.a, Z.b, Z.c, Z.d, Z.e, Z.f, Z.g, Z.h, Z.i, Z.j, Z.k, Z.l, Z.m] at h21
                    have hS2 : symF (symF (rotF l y.1 m e) a y.1 mid) mid e b = symF (rotF l y.1 m e) a y.1 mid := by
                      by_cases q : e = mid
                      · exact (congrArg (fun t => symF (symF (rotF l y.1 m e) a y.1 mid) mid t b) q).trans (symF_id1 (by omega) (by rw [hsl, hrl]; omega))
                      · exact (congrArg (fun t => symF (symF (rotF l y.1 m e) a y.1 mid) mid e t) (show b = e by omega)).trans (symF_id2 (by omega) (by rw [hsl, hrl]; omega))
                    refine RO.nil ?_
                    refine Runs.condF rfl ?_
                    refine Runs.skip ?_
                    refine EndQ.none (.inl rfl) rfl 1 (by exact Nat.le_refl _) (by simp) ⟨rfl, ?_⟩
                    · first | (rw [hk, sym_one1 y1 (by omega) g3 hgX (all_seg y4) (all_seg (by rw [hij]; exact y5))] <;> rfl) | (rw [← hk, sym_one2 y1 (by omega) hgX (all_seg y4) (all_seg (by rw [hij]; exact y5))] <;> rfl) | (rw [← k1] <;> rfl) | (rw [← k1, hS2] <;> rfl) | (rw [← k1, hS2, hS1] <;> rfl) | (rw [← k1, hS2, hS1, hR] <;> rfl) | (rw [← k1, hS1] <;> rfl) | (rw [← k1, hS1, hR] <;> rfl) | (rw [← k1, hS2, hR] <;> rfl) | (rw [← k1, hR] <;> rfl)
                · try simp only [Z.a, Z.b, Z.c, Z.d, Z.e, Z.f, Z.g, Z.h, Z.i, Z.j, Z.k, Z.l, Z.m] at h20
                  have hS2 : symF (symF (rotF l y.1 m e) a y.1 mid) mid e b = symF (rotF l y.1 m e) a y.1 mid := by
                    by_cases q : e = mid
                    · exact (congrArg (fun t => symF (symF (rotF l y.1 m e) a y.1 mid) mid t b) q).trans (symF_id1 (by omega) (by rw [hsl, hrl]; omega))
                    · exact (congrArg (fun t => symF (symF (rotF l y.1 m e) a y.1 mid) mid e t) (show b = e by omega)).trans (symF_id2 (by omega) (by rw [hsl, hrl]; omega))
                  refine RO.off rfl ?_
                  refine RO.off rfl ?_
                  refine RO.off rfl ?_
                  refine RO.opv (v' := .d (.bool false)) (opv_pick rfl rfl) rfl ?_
                  refine RO.nil ?_
                  refine Runs.condF rfl ?_
                  refine Runs.skip ?_
                  refine EndQ.none (.inl rfl) rfl 1 (by exact Nat.le_refl _) (by simp) ⟨rfl, ?_⟩
                  · first | (rw [hk, sym_one1 y1 (by omega) g3 hgX (all_seg y4) (all_seg (by rw [hij]; exact y5))] <;> rfl) | (rw [← hk, sym_one2 y1 (by omega) hgX (all_seg y4) (all_seg (by rw [hij]; exact y5))] <;> rfl) | (rw [← k1] <;> rfl) | (rw [← k1, hS2] <;> rfl) | (rw [← k1, hS2, hS1] <;> rfl) | (rw [← k1, hS2, hS1, hR] <;> rfl) | (rw [← k1, hS1] <;> rfl) | (rw [← k1, hS1, hR] <;> rfl) | (rw [← k1, hS2, hR] <;> rfl) | (rw [← k1, hR] <;> rfl)
            · try simp only [Z.a, Z.b, Z.c, Z.d, Z.e, Z.f, Z.g, Z.h, Z.i, Z.j, Z.k, Z.l, Z.m] at h13
              have hR : rotF l y.1 m e = l := by
                by_cases q : y.1 = m
                · exact (congrArg (fun t => rotF l t m e) q).trans (rotF_id1 (by omega) (by omega))
                · exact (congrArg (fun t => rotF l y.1 m t) (show e = m by omega)).trans (rotF_id2 (by omega) (by omega))
              refine RO.nil ?_
              refine Runs.condF rfl ?_
              refine Runs.skip ?_
              refine thenQ_normal ?_
              refine Runs.has [(0, .own 0 _), (1, .d (.int _ _)), (3, .d (.int _ _)), (4, .fn 19 _), (18, .d (.int _ _)), (20, .d (.int _ _)), (24, .d (.int _ _))] ⟨rfl, rfl, rfl, rfl, rfl, rfl, rfl, trivial⟩ ?_
              refine Runs.seq ?_
              refine Runs.rseq ?_
              refine RO.opv (v' := .d (.int _ _)) (opv_move rfl) rfl ?_
              refine RO.opv (v' := .d (.int _ _)) (opv_move rfl) rfl ?_
              refine RO.opv (v' := .d (.bool _)) (opv_bin rfl rfl rfl) rfl ?_
              refine RO.opc (opv_move rfl) (fun h22 => ?_) (fun h22 => ?_)
              · try simp only [Z.a, Z.b, Z.c, Z.d, Z.e, Z.f, Z.g, Z.h, Z.i, Z.j, Z.k, Z.l, Z.m] at h22
                skip
                refine RO.opgv (v' := .d (.int _ _)) rfl (opv_move rfl) rfl ?_
                refine RO.opgv (v' := .d (.int _ _)) rfl (opv_move rfl) rfl ?_
                refine RO.opgv (v' := .d (.bool _)) rfl (opv_bin rfl rfl rfl) rfl ?_
                refine RO.opc (opv_pick rfl rfl) (fun h23 => ?_) (fun h23 => ?_)
                · try simp only [Z.a, Z.b, Z.c, Z.d, Z.e, Z.f, Z.g, Z.h, Z.i, Z.j, Z.k, Z.l, Z.m] at h23
                  skip
                  refine RO.nil ?_
                  refine Runs.condT rfl ?_
                  refine Runs.has [(0, .own 0 _), (1, .d (.int _ _)), (3, .d (.int _ _)), (4, .fn 19 _), (18, .d (.int _ _)), (20, .d (.int _ _)), (24, .d (.int _ _))] ⟨rfl, rfl, rfl, rfl, rfl, rfl, rfl, trivial⟩ ?_
                  refine Runs.region ?_
                  refine RO.opv (v' := .own 0 _) (opv_move rfl) rfl ?_
                  refine RO.opv (v' := .d (.int _ _)) (opv_move rfl) rfl ?_
                  refine RO.opv (v' := .d (.int _ _)) (opv_move rfl) rfl ?_
                  refine RO.opv (v' := .d (.int _ _)) (opv_move rfl) rfl ?_
                  refine RO.opv (v' := .fn 19 _) (opv_move rfl) rfl ?_
                  refine RO.opn (O' := [_]) (opv_callP 1 (ih _ v a y.1 mid (by omega) (by omega) (by omega) (by first | omega | (rw [hrl]; omega) | (rw [hsl, hrl]; omega) | (rw [hR] at hsl; rw [hsl]; omega)) (by first | omega | (rw [hrl]; omega) | (rw [hsl, hrl]; omega) | (rw [hR] at hsl; rw [hsl]; omega)) (by first | exact sA.1 | (rw [k2]; exact sA.1) | (rw [hR] at k2; rw [k2]; exact sA.1) | (rw [hS1] at k2; rw [k2]; exact sA.1) | (rw [hS1, hR] at k2; rw [k2]; exact sA.1)) (by first | exact sB.1 | (rw [k3]; exact sB.1) | (rw [hR] at k3; rw [k3]; exact sB.1) | (rw [hS1] at k3; rw [k3]; exact sB.1) | (rw [hS1, hR] at k3; rw [k3]; exact sB.1)) (by first | exact hbk | exact hrb | exact hsb | (rw [hR] at hsb; exact hsb))) rfl rfl (Nat.le_of_ble_eq_true rfl) rfl (AV.bds_of_B _ rfl)) rfl rfl ?_
                  refine RO.nil ?_
                  refine thenQ_normal ?_
                  refine Runs.has [(0, .own 0 _), (3, .d (.int _ _)), (4, .fn 19 _), (18, .d (.int _ _)), (24, .d (.int _ _))] ⟨rfl, rfl, rfl, rfl, rfl, trivial⟩ ?_
                  refine Runs.rseq ?_
                  refine RO.opv (v' := .d (.int _ _)) (opv_move rfl) rfl ?_
                  refine RO.opv (v' := .d (.int _ _)) (opv_move rfl) rfl ?_
                  refine RO.opv (v' := .d (.bool _)) (opv_bin rfl rfl rfl) rfl ?_
                  refine RO.opc (opv_move rfl) (fun h24 => ?_) (fun h24 => ?_)
                  · try simp only [Z.a, Z.b, Z.c, Z.d, Z.e, Z.f, Z.g, Z.h, Z.i, Z.j, Z.k, Z.l, Z.m] at h24
                    skip
                    refine RO.opgv (v' := .d (.int _ _)) rfl (opv_move rfl) rfl ?_
                    refine RO.opgv (v' := .d (.int _ _)) rfl (opv_move rfl) rfl ?_
                    refine RO.opgv (v' := .d (.bool _)) rfl (opv_bin rfl rfl rfl) rfl ?_
                    refine RO.opc (opv_pick rfl rfl) (fun h25 => ?_) (fun h25 => ?_)
                    · try simp only [Z.a, Z.b, Z.c, Z.d, Z.e, Z.f, Z.g, Z.h, Z.i, Z.j, Z.k, Z.l, Z.m] at h25
                      skip
                      refine RO.nil ?_
                      refine Runs.condT rfl ?_
                      refine Runs.has [(0, .own 0 _), (3, .d (.int _ _)), (4, .fn 19 _), (18, .d (.int _ _)), (24, .d (.int _ _))] ⟨rfl, rfl, rfl, rfl, rfl, trivial⟩ ?_
                      refine Runs.region ?_
                      refine RO.opv (v' := .own 0 _) (opv_move rfl) rfl ?_
                      refine RO.opv (v' := .d (.int _ _)) (opv_move rfl) rfl ?_
                      refine RO.opv (v' := .d (.int _ _)) (opv_move rfl) rfl ?_
                      refine RO.opv (v' := .d (.int _ _)) (opv_move rfl) rfl ?_
                      refine RO.opv (v' := .fn 19 _) (opv_move rfl) rfl ?_
                      refine RO.opn (O' := [_]) (opv_callP 1 (ih _ v mid e b (by omega) (by omega) (by omega) (by first | omega | (rw [hrl]; omega) | (rw [hsl, hrl]; omega) | (rw [hR] at hsl; rw [hsl]; omega)) (by first | omega | (rw [hrl]; omega) | (rw [hsl, hrl]; omega) | (rw [hR] at hsl; rw [hsl]; omega)) (by first | exact sA.2 | (rw [k4]; exact sA.2) | (rw [hR] at k4; rw [k4]; exact sA.2) | (rw [hS1] at k4; rw [k4]; exact sA.2) | (rw [hS1, hR] at k4; rw [k4]; exact sA.2)) (by first | exact sB.2 | (rw [k5]; exact sB.2) | (rw [hR] at k5; rw [k5]; exact sB.2) | (rw [hS1] at k5; rw [k5]; exact sB.2) | (rw [hS1, hR] at k5; rw [k5]; exact sB.2)) (by first | exact hbk | exact hrb | exact hsb | (rw [hR] at hsb; exact hsb))) rfl rfl (Nat.le_of_ble_eq_true rfl) rfl (AV.bds_of_B _ rfl)) rfl rfl ?_
                      refine RO.nil ?_
                      refine EndQ.none (.inl rfl) rfl 1 (by exact Nat.le_refl _) (by simp) ⟨rfl, ?_⟩
                      · first | (rw [hk, sym_one1 y1 (by omega) g3 hgX (all_seg y4) (all_seg (by rw [hij]; exact y5))] <;> rfl) | (rw [← hk, sym_one2 y1 (by omega) hgX (all_seg y4) (all_seg (by rw [hij]; exact y5))] <;> rfl) | (rw [← k1] <;> rfl) | (rw [← k1, hS2] <;> rfl) | (rw [← k1, hS2, hS1] <;> rfl) | (rw [← k1, hS2, hS1, hR] <;> rfl) | (rw [← k1, hS1] <;> rfl) | (rw [← k1, hS1, hR] <;> rfl) | (rw [← k1, hS2, hR] <;> rfl) | (rw [← k1, hR] <;> rfl)
                    · try simp only [Z.a, Z.b, Z.c, Z.d, Z.e, Z.f, Z.g, Z.h, Z.i, Z.j, Z.k, Z.l, Z.m] at h25
                      have hS2 : symF (symF (rotF l y.1 m e) a y.1 mid) mid e b = symF (rotF l y.1 m e) a y.1 mid := by
                        by_cases q : e = mid
                        · exact (congrArg (fun t => symF (symF (rotF l y.1 m e) a y.1 mid) mid t b) q).trans (symF_id1 (by omega) (by rw [hsl, hrl]; omega))
                        · exact (congrArg (fun t => symF (symF (rotF l y.1 m e) a y.1 mid) mid e t) (show b = e by omega)).trans (symF_id2 (by omega) (by rw [hsl, hrl]; omega))
                      refine RO.nil ?_
                      refine Runs.condF rfl ?_
                      refine Runs.skip ?_
                      refine EndQ.none (.inl rfl) rfl 1 (by exact Nat.le_refl _) (by simp) ⟨rfl, ?_⟩
                      · first | (rw [hk, sym_one1 y1 (by omega) g3 hgX (all_seg y4) (all_seg (by rw [hij]; exact y5))] <;> rfl) | (rw [← hk, sym_one2 y1 (by omega) hgX (all_seg y4) (all_seg (by rw [hij]; exact y5))] <;> rfl) | (rw [← k1] <;> rfl) | (rw [← k1, hS2] <;> rfl) | (rw [← k1, hS2, hS1] <;> rfl) | (rw [← k1, hS2, hS1, hR] <;> rfl) | (rw [← k1, hS1] <;> rfl) | (rw [← k1, hS1, hR] <;> rfl) | (rw [← k1, hS2, hR] <;> rfl) | (rw [← k1, hR] <;> rfl)
                  · try simp only [Z.a, Z.b, Z.c, Z.d, Z.e, Z.f, Z.g, Z.h, Z.i, Z.j, Z.k, Z.l, Z.m] at h24
                    have hS2 : symF (symF (rotF l y.1 m e) a y.1 mid) mid e b = symF (rotF l y.1 m e) a y.1 mid := by
                      by_cases q : e = mid
                      · exact (congrArg (fun t => symF (symF (rotF l y.1 m e) a y.1 mid) mid t b) q).trans (symF_id1 (by omega) (by rw [hsl, hrl]; omega))
                      · exact (congrArg (fun t => symF (symF (rotF l y.1 m e) a y.1 mid) mid e t) (show b = e by omega)).trans (symF_id2 (by omega) (by rw [hsl, hrl]; omega))
                    refine RO.off rfl ?_
                    refine RO.off rfl ?_
                    refine RO.off rfl ?_
                    refine RO.opv (v' := .d (.bool false)) (opv_pick rfl rfl) rfl ?_
                    refine RO.nil ?_
                    refine Runs.condF rfl ?_
                    refine Runs.skip ?_
                    refine EndQ.none (.inl rfl) rfl 1 (by exact Nat.le_refl _) (by simp) ⟨rfl, ?_⟩
                    · first | (rw [hk, sym_one1 y1 (by omega) g3 hgX (all_seg y4) (all_seg (by rw [hij]; exact y5))] <;> rfl) | (rw [← hk, sym_one2 y1 (by omega) hgX (all_seg y4) (all_seg (by rw [hij]; exact y5))] <;> rfl) | (rw [← k1] <;> rfl) | (rw [← k1, hS2] <;> rfl) | (rw [← k1, hS2, hS1] <;> rfl) | (rw [← k1, hS2, hS1, hR] <;> rfl) | (rw [← k1, hS1] <;> rfl) | (rw [← k1, hS1, hR] <;> rfl) | (rw [← k1, hS2, hR] <;> rfl) | (rw [← k1, hR] <;> rfl)
                · try simp only [Z.a, Z.b, Z.c, Z.d, Z.e, Z.f, Z.g, Z.h, Z.i, Z.j, Z.k, Z.l, Z.m] at h23
                  have hS1 : symF (rotF l y.1 m e) a y.1 mid = rotF l y.1 m e := by
                    by_cases q : y.1 = a
                    · exact (congrArg (fun t => symF (rotF l y.1 m e) a t mid) q).trans (symF_id1 (by omega) (by rw [hrl]; omega))
                    · exact (congrArg (fun t => symF (rotF l y.1 m e) a y.1 t) (show mid = y.1 by omega)).trans (symF_id2 (by omega) (by rw [hrl]; omega))
                  refine RO.nil ?_
                  refine Runs.condF rfl ?_
                  refine Runs.skip ?_
                  refine thenQ_normal ?_
                  refine Runs.has [(0, .own 0 _), (3, .d (.int _ _)), (4, .fn 19 _), (18, .d (.int _ _)), (24, .d (.int _ _))] ⟨rfl, rfl, rfl, rfl, rfl, trivial⟩ ?_
                  refine Runs.rseq ?_
                  refine RO.opv (v' := .d (.int _ _)) (opv_move rfl) rfl ?_
                  refine RO.opv (v' := .d (.int _ _)) (opv_move rfl) rfl ?_
                  refine RO.opv (v' := .d (.bool _)) (opv_bin rfl rfl rfl) rfl ?_
                  refine RO.opc (opv_move rfl) (fun h26 => ?_) (fun h26 => ?_)
                  · try simp only [Z.a, Z.b, Z.c, Z.d, Z.e, Z.f, Z.g, Z.h, Z.i, Z.j, Z.k, Z.l, Z.m] at h26
                    skip
                    refine RO.opgv (v' := .d (.int _ _)) rfl (opv_move rfl) rfl ?_
                    refine RO.opgv (v' := .d (.int _ _)) rfl (opv_move rfl) rfl ?_
                    refine RO.opgv (v' := .d (.bool _)) rfl (opv_bin rfl rfl rfl) rfl ?_
                    refine RO.opc (opv_pick rfl rfl) (fun h27 => ?_) (fun h27 => ?_)
                    · try simp only [Z.a, Z.b, Z.c, Z.d, Z.e, Z.f, Z.g, Z.h, Z.i, Z.j, Z.k, Z.l, Z.m] at h27
                      skip
                      refine RO.nil ?_
                      refine Runs.condT rfl ?_
                      refine Runs.has [(0, .own 0 _), (3, .d (.int _ _)), (4, .fn 19 _), (18, .d (.int _ _)), (24, .d (.int _ _))] ⟨rfl, rfl, rfl, rfl, rfl, trivial⟩ ?_
                      refine Runs.region ?_
                      refine RO.opv (v' := .own 0 _) (opv_move rfl) rfl ?_
                      refine RO.opv (v' := .d (.int _ _)) (opv_move rfl) rfl ?_
                      refine RO.opv (v' := .d (.int _ _)) (opv_move rfl) rfl ?_
                      refine RO.opv (v' := .d (.int _ _)) (opv_move rfl) rfl ?_
                      refine RO.opv (v' := .fn 19 _) (opv_move rfl) rfl ?_
                      refine RO.opn (O' := [_]) (opv_callP 1 (ih _ v mid e b (by omega) (by omega) (by omega) (by first | omega | (rw [hrl]; omega) | (rw [hsl, hrl]; omega) | (rw [hR] at hsl; rw [hsl]; omega)) (by first | omega | (rw [hrl]; omega) | (rw [hsl, hrl]; omega) | (rw [hR] at hsl; rw [hsl]; omega)) (by first | exact sA.2 | (rw [k4]; exact sA.2) | (rw [hR] at k4; rw [k4]; exact sA.2) | (rw [hS1] at k4; rw [k4]; exact sA.2) | (rw [hS1, hR] at k4; rw [k4]; exact sA.2)) (by first | exact sB.2 | (rw [k5]; exact sB.2) | (rw [hR] at k5; rw [k5]; exact sB.2) | (rw [hS1] at k5; rw [k5]; exact sB.2) | (rw [hS1, hR] at k5; rw [k5]; exact sB.2)) (by first | exact hbk | exact hrb | exact hsb | (rw [hR] at hsb; exact hsb))) rfl rfl (Nat.le_of_ble_eq_true rfl) rfl (AV.bds_of_B _ rfl)) rfl rfl ?_
                      refine RO.nil ?_
                      refine EndQ.none (.inl rfl) rfl 1 (by exact Nat.le_refl _) (by simp) ⟨rfl, ?_⟩
                      · first | (rw [hk, sym_one1 y1 (by omega) g3 hgX (all_seg y4) (all_seg (by rw [hij]; exact y5))] <;> rfl) | (rw [← hk, sym_one2 y1 (by omega) hgX (all_seg y4) (all_seg (by rw [hij]; exact y5))] <;> rfl) | (rw [← k1] <;> rfl) | (rw [← k1, hS2] <;> rfl) | (rw [← k1, hS2, hS1] <;> rfl) | (rw [← k1, hS2, hS1, hR] <;> rfl) | (rw [← k1, hS1] <;> rfl) | (rw [← k1, hS1, hR] <;> rfl) | (rw [← k1, hS2, hR] <;> rfl) | (rw [← k1, hR] <;> rfl)
                    · try simp only [Z.a, Z.b, Z.c, Z.d, Z.e, Z.f, Z.g, Z.h, Z.i, Z.j, Z.k, Z.l, Z.m] at h27
                      have hS2 : symF (symF (rotF l y.1 m e) a y.1 mid) mid e b = symF (rotF l y.1 m e) a y.1 mid := by
                        by_cases q : e = mid
                        · exact (congrArg (fun t => symF (symF (rotF l y.1 m e) a y.1 mid) mid t b) q).trans (symF_id1 (by omega) (by rw [hsl, hrl]; omega))
                        · exact (congrArg (fun t => symF (symF (rotF l y.1 m e) a y.1 mid) mid e t) (show b = e by omega)).trans (symF_id2 (by omega) (by rw [hsl, hrl]; omega))
                      refine RO.nil ?_
                      refine Runs.condF rfl ?_
                      refine Runs.skip ?_
                      refine EndQ.none (.inl rfl) rfl 1 (by exact Nat.le_refl _) (by simp) ⟨rfl, ?_⟩
                      · first | (rw [hk, sym_one1 y1 (by omega) g3 hgX (all_seg y4) (all_seg (by rw [hij]; exact y5))] <;> rfl) | (rw [← hk, sym_one2 y1 (by omega) hgX (all_seg y4) (all_seg (by rw [hij]; exact y5))] <;> rfl) | (rw [← k1] <;> rfl) | (rw [← k1, hS2] <;> rfl) | (rw [← k1, hS2, hS1] <;> rfl) | (rw [← k1, hS2, hS1, hR] <;> rfl) | (rw [← k1, hS1] <;> rfl) | (rw [← k1, hS1, hR] <;> rfl) | (rw [← k1, hS2, hR] <;> rfl) | (rw [← k1, hR] <;> rfl)
                  · try simp only [Z.a, Z.b, Z.c, Z.d, Z.e, Z.f, Z.g, Z.h, Z.i, Z.j, Z.k, Z.l, Z.m] at h26
                    have hS2 : symF (symF (rotF l y.1 m e) a y.1 mid) mid e b = symF (rotF l y.1 m e) a y.1 mid := by
                      by_cases q : e = mid
                      · exact (congrArg (fun t => symF (symF (rotF l y.1 m e) a y.1 mid) mid t b) q).trans (symF_id1 (by omega) (by rw [hsl, hrl]; omega))
                      · exact (congrArg (fun t => symF (symF (rotF l y.1 m e) a y.1 mid) mid e t) (show b = e by omega)).trans (symF_id2 (by omega) (by rw [hsl, hrl]; omega))
                    refine RO.off rfl ?_
                    refine RO.off rfl ?_
                    refine RO.off rfl ?_
                    refine RO.opv (v' := .d (.bool false)) (opv_pick rfl rfl) rfl ?_
                    refine RO.nil ?_
                    refine Runs.condF rfl ?_
                    refine Runs.skip ?_
                    refine EndQ.none (.inl rfl) rfl 1 (by exact Nat.le_refl _) (by simp) ⟨rfl, ?_⟩
                    · first | (rw [hk, sym_one1 y1 (by omega) g3 hgX (all_seg y4) (all_seg (by rw [hij]; exact y5))] <;> rfl) | (rw [← hk, sym_one2 y1 (by omega) hgX (all_seg y4) (all_seg (by rw [hij]; exact y5))] <;> rfl) | (rw [← k1] <;> rfl) | (rw [← k1, hS2] <;> rfl) | (rw [← k1, hS2, hS1] <;> rfl) | (rw [← k1, hS2, hS1, hR] <;> rfl) | (rw [← k1, hS1] <;> rfl) | (rw [← k1, hS1, hR] <;> rfl) | (rw [← k1, hS2, hR] <;> rfl) | (rw [← k1, hR] <;> rfl)
              · try simp only [Z.a, Z.b, Z.c, Z.d, Z.e, Z.f, Z.g, Z.h, Z.i, Z.j, Z.k, Z.l, Z.m] at h22
                have hS1 : symF (rotF l y.1 m e) a y.1 mid = rotF l y.1 m e := by
                  by_cases q : y.1 = a
                  · exact (congrArg (fun t => symF (rotF l y.1 m e) a t mid) q).trans (symF_id1 (by omega) (by rw [hrl]; omega))
                  · exact (congrArg (fun t => symF (rotF l y.1 m e) a y.1 t) (show mid = y.1 by omega)).trans (symF_id2 (by omega) (by rw [hrl]; omega))
                refine RO.off rfl ?_
                refine RO.off rfl ?_
                refine RO.off rfl ?_
                refine RO.opv (v' := .d (.bool false)) (opv_pick rfl rfl) rfl ?_
                refine RO.nil ?_
                refine Runs.condF rfl ?_
                refine Runs.skip ?_
                refine thenQ_normal ?_
                refine Runs.has [(0, .own 0 _), (3, .d (.int _ _)), (4, .fn 19 _), (18, .d (.int _ _)), (24, .d (.int _ _))] ⟨rfl, rfl, rfl, rfl, rfl, trivial⟩ ?_
                refine Runs.rseq ?_
                refine RO.opv (v' := .d (.int _ _)) (opv_move rfl) rfl ?_
                refine RO.opv (v' := .d (.int _ _)) (opv_move rfl) rfl ?_
                refine RO.opv (v' := .d (.bool _)) (opv_bin rfl rfl rfl) rfl ?_
                refine RO.opc (opv_move rfl) (fun h28 => ?_) (fun h28 => ?_)
                · try simp only [Z.a, Z.b, Z.c, Z.d, Z.e, Z.f, Z.g, Z.h, Z.i, Z.j, Z.k, Z.l, Z.m] at h28
                  skip
                  refine RO.opgv (v' := .d (.int _ _)) rfl (opv_move rfl) rfl ?_
                  refine RO.opgv (v' := .d (.int _ _)) rfl (opv_move rfl) rfl ?_
                  refine RO.opgv (v' := .d (.bool _)) rfl (opv_bin rfl rfl rfl) rfl ?_
                  refine RO.opc (opv_pick rfl rfl) (fun h29 => ?_) (fun h29 => ?_)
                  · try simp only [Z.a, Z.b, Z.c, Z.d, Z.e, Z.f, Z.g, Z.h, Z.i, Z.j, Z.k, Z.l, Z.m] at h29
                    skip
                    refine RO.nil ?_
                    refine Runs.condT rfl ?_
                    refine Runs.has [(0, .own 0 _), (3, .d (.int _ _)), (4, .fn 19 _), (18, .d (.int _ _)), (24, .d (.int _ _))] ⟨rfl, rfl, rfl, rfl, rfl, trivial⟩ ?_
                    refine Runs.region ?_
                    refine RO.opv (v' := .own 0 _) (opv_move rfl) rfl ?_
                    refine RO.opv (v' := .d (.int _ _)) (opv_move rfl) rfl ?_
                    refine RO.opv (v' := .d (.int _ _)) (opv_move rfl) rfl ?_
                    refine RO.opv (v' := .d (.int _ _)) (opv_move rfl) rfl ?_
                    refine RO.opv (v' := .fn 19 _) (opv_move rfl) rfl ?_
                    refine RO.opn (O' := [_]) (opv_callP 1 (ih _ v mid e b (by omega) (by omega) (by omega) (by first | omega | (rw [hrl]; omega) | (rw [hsl, hrl]; omega) | (rw [hR] at hsl; rw [hsl]; omega)) (by first | omega | (rw [hrl]; omega) | (rw [hsl, hrl]; omega) | (rw [hR] at hsl; rw [hsl]; omega)) (by first | exact sA.2 | (rw [k4]; exact sA.2) | (rw [hR] at k4; rw [k4]; exact sA.2) | (rw [hS1] at k4; rw [k4]; exact sA.2) | (rw [hS1, hR] at k4; rw [k4]; exact sA.2)) (by first | exact sB.2 | (rw [k5]; exact sB.2) | (rw [hR] at k5; rw [k5]; exact sB.2) | (rw [hS1] at k5; rw [k5]; exact sB.2) | (rw [hS1, hR] at k5; rw [k5]; exact sB.2)) (by first | exact hbk | exact hrb | exact hsb | (rw [hR] at hsb; exact hsb))) rfl rfl (Nat.le_of_ble_eq_true rfl) rfl (AV.bds_of_B _ rfl)) rfl rfl ?_
                    refine RO.nil ?_
                    refine EndQ.none (.inl rfl) rfl 1 (by exact Nat.le_refl _) (by simp) ⟨rfl, ?_⟩
                    · first | (rw [hk, sym_one1 y1 (by omega) g3 hgX (all_seg y4) (all_seg (by rw [hij]; exact y5))] <;> rfl) | (rw [← hk, sym_one2 y1 (by omega) hgX (all_seg y4) (all_seg (by rw [hij]; exact y5))] <;> rfl) | (rw [← k1] <;> rfl) | (rw [← k1, hS2] <;> rfl) | (rw [← k1, hS2, hS1] <;> rfl) | (rw [← k1, hS2, hS1, hR] <;> rfl) | (rw [← k1, hS1] <;> rfl) | (rw [← k1, hS1, hR] <;> rfl) | (rw [← k1, hS2, hR] <;> rfl) | (rw [← k1, hR] <;> rfl)
                  · try simp only [Z.a, Z.b, Z.c, Z.d, Z.e, Z.f, Z.g, Z.h, Z.i, Z.j, Z.k, Z.l, Z.m] at h29
                    have hS2 : symF (symF (rotF l y.1 m e) a y.1 mid) mid e b = symF (rotF l y.1 m e) a y.1 mid := by
                      by_cases q : e = mid
                      · exact (congrArg (fun t => symF (symF (rotF l y.1 m e) a y.1 mid) mid t b) q).trans (symF_id1 (by omega) (by rw [hsl, hrl]; omega))
                      · exact (congrArg (fun t => symF (symF (rotF l y.1 m e) a y.1 mid) mid e t) (show b = e by omega)).trans (symF_id2 (by omega) (by rw [hsl, hrl]; omega))
                    refine RO.nil ?_
                    refine Runs.condF rfl ?_
                    refine Runs.skip ?_
                    refine EndQ.none (.inl rfl) rfl 1 (by exact Nat.le_refl _) (by simp) ⟨rfl, ?_⟩
                    · first | (rw [hk, sym_one1 y1 (by omega) g3 hgX (all_seg y4) (all_seg (by rw [hij]; exact y5))] <;> rfl) | (rw [← hk, sym_one2 y1 (by omega) hgX (all_seg y4) (all_seg (by rw [hij]; exact y5))] <;> rfl) | (rw [← k1] <;> rfl) | (rw [← k1, hS2] <;> rfl) | (rw [← k1, hS2, hS1] <;> rfl) | (rw [← k1, hS2, hS1, hR] <;> rfl) | (rw [← k1, hS1] <;> rfl) | (rw [← k1, hS1, hR] <;> rfl) | (rw [← k1, hS2, hR] <;> rfl) | (rw [← k1, hR] <;> rfl)
                · try simp only [Z.a, Z.b, Z.c, Z.d, Z.e, Z.f, Z.g, Z.h, Z.i, Z.j, Z.k, Z.l, Z.m] at h28
                  have hS2 : symF (symF (rotF l y.1 m e) a y.1 mid) mid e b = symF (rotF l y.1 m e) a y.1 mid := by
                    by_cases q : e = mid
                    · exact (congrArg (fun t => symF (symF (rotF l y.1 m e) a y.1 mid) mid t b) q).trans (symF_id1 (by omega) (by rw [hsl, hrl]; omega))
                    · exact (congrArg (fun t => symF (symF (rotF l y.1 m e) a y.1 mid) mid e t) (show b = e by omega)).trans (symF_id2 (by omega) (by rw [hsl, hrl]; omega))
                  refine RO.off rfl ?_
                  refine RO.off rfl ?_
                  refine RO.off rfl ?_
                  refine RO.opv (v' := .d (.bool false)) (opv_pick rfl rfl) rfl ?_
                  refine RO.nil ?_
                  refine Runs.condF rfl ?_
                  refine Runs.skip ?_
                  refine EndQ.none (.inl rfl) rfl 1 (by exact Nat.le_refl _) (by simp) ⟨rfl, ?_⟩
                  · first | (rw [hk, sym_one1 y1 (by omega) g3 hgX (all_seg y4) (all_seg (by rw [hij]; exact y5))] <;> rfl) | (rw [← hk, sym_one2 y1 (by omega) hgX (all_seg y4) (all_seg (by rw [hij]; exact y5))] <;> rfl) | (rw [← k1] <;> rfl) | (rw [← k1, hS2] <;> rfl) | (rw [← k1, hS2, hS1] <;> rfl) | (rw [← k1, hS2, hS1, hR] <;> rfl) | (rw [← k1, hS1] <;> rfl) | (rw [← k1, hS1, hR] <;> rfl) | (rw [← k1, hS2, hR] <;> rfl) | (rw [← k1, hR] <;> rfl)
          · try simp only [Z.a, Z.b, Z.c, Z.d, Z.e, Z.f, Z.g, Z.h, Z.i, Z.j, Z.k, Z.l, Z.m] at h12
            have hR : rotF l y.1 m e = l := by
              by_cases q : y.1 = m
              · exact (congrArg (fun t => rotF l t m e) q).trans (rotF_id1 (by omega) (by omega))
              · exact (congrArg (fun t => rotF l y.1 m t) (show e = m by omega)).trans (rotF_id2 (by omega) (by omega))
            refine RO.off rfl ?_
            refine RO.off rfl ?_
            refine RO.off rfl ?_
            refine RO.opv (v' := .d (.bool false)) (opv_pick rfl rfl) rfl ?_
            refine RO.nil ?_
            refine Runs.condF rfl ?_
            refine Runs.skip ?_
            refine thenQ_normal ?_
            refine Runs.has [(0, .own 0 _), (1, .d (.int _ _)), (3, .d (.int _ _)), (4, .fn 19 _), (18, .d (.int _ _)), (20, .d (.int _ _)), (24, .d (.int _ _))] ⟨rfl, rfl, rfl, rfl, rfl, rfl, rfl, trivial⟩ ?_
            refine Runs.seq ?_
            refine Runs.rseq ?_
            refine RO.opv (v' := .d (.int _ _)) (opv_move rfl) rfl ?_
            refine RO.opv (v' := .d (.int _ _)) (opv_move rfl) rfl ?_
            refine RO.opv (v' := .d (.bool _)) (opv_bin rfl rfl rfl) rfl ?_
            refine RO.opc (opv_move rfl) (fun h30 => ?_) (fun h30 => ?_)
            · try simp only [Z.a, Z.b, Z.c, Z.d, Z.e, Z.f, Z.g, Z.h, Z.i, Z.j, Z.k, Z.l, Z.m] at h30
              skip
              refine RO.opgv (v' := .d (.int _ _)) rfl (opv_move rfl) rfl ?_
              refine RO.opgv (v' := .d (.int _ _)) rfl (opv_move rfl) rfl ?_
              refine RO.opgv (v' := .d (.bool _)) rfl (opv_bin rfl rfl rfl) rfl ?_
              refine RO.opc (opv_pick rfl rfl) (fun h31 => ?_) (fun h31 => ?_)
              · try simp only [Z.a, Z.b, Z.c, Z.d, Z.e, Z.f, Z.g, Z.h, Z.i, Z.j, Z.k, Z.l, Z.m] at h31
                skip
                refine RO.nil ?_
                refine Runs.condT rfl ?_
                refine Runs.has [(0, .own 0 _), (1, .d (.int _ _)), (3, .d (.int _ _)), (4, .fn 19 _), (18, .d (.int _ _)), (20, .d (.int _ _)), (24, .d (.int _ _))] ⟨rfl, rfl, rfl, rfl, rfl, rfl, rfl, trivial⟩ ?_
                refine Runs.region ?_
                refine RO.opv (v' := .own 0 _) (opv_move rfl) rfl ?_
                refine RO.opv (v' := .d (.int _ _)) (opv_move rfl) rfl ?_
                refine RO.opv (v' := .d (.int _ _)) (opv_move rfl) rfl ?_
                refine RO.opv (v' := .d (.int _ _)) (opv_move rfl) rfl ?_
                refine RO.opv (v' := .fn 19 _) (opv_move rfl) rfl ?_
                refine RO.opn (O' := [_]) (opv_callP 1 (ih _ v a y.1 mid (by omega) (by omega) (by omega) (by first | omega | (rw [hrl]; omega) | (rw [hsl, hrl]; omega) | (rw [hR] at hsl; rw [hsl]; omega)) (by first | omega | (rw [hrl]; omega) | (rw [hsl, hrl]; omega) | (rw [hR] at hsl; rw [hsl]; omega)) (by first | exact sA.1 | (rw [k2]; exact sA.1) | (rw [hR] at k2; rw [k2]; exact sA.1) | (rw [hS1] at k2; rw [k2]; exact sA.1) | (rw [hS1, hR] at k2; rw [k2]; exact sA.1)) (by first | exact sB.1 | (rw [k3]; exact sB.1) | (rw [hR] at k3; rw [k3]; exact sB.1) | (rw [hS1] at k3; rw [k3]; exact sB.1) | (rw [hS1, hR] at k3; rw [k3]; exact sB.1)) (by first | exact hbk | exact hrb | exact hsb | (rw [hR] at hsb; exact hsb))) rfl rfl (Nat.le_of_ble_eq_true rfl) rfl (AV.bds_of_B _ rfl)) rfl rfl ?_
                refine RO.nil ?_
                refine thenQ_normal ?_
                refine Runs.has [(0, .own 0 _), (3, .d (.int _ _)), (4, .fn 19 _), (18, .d (.int _ _)), (24, .d (.int _ _))] ⟨rfl, rfl, rfl, rfl, rfl, trivial⟩ ?_
                refine Runs.rseq ?_
                refine RO.opv (v' := .d (.int _ _)) (opv_move rfl) rfl ?_
                refine RO.opv (v' := .d (.int _ _)) (opv_move rfl) rfl ?_
                refine RO.opv (v' := .d (.bool _)) (opv_bin rfl rfl rfl) rfl ?_
                refine RO.opc (opv_move rfl) (fun h32 => ?_) (fun h32 => ?_)
                · try simp only [Z.a, Z.b, Z.c, Z.d, Z.e, Z.f, Z.g, Z.h, Z.i, Z.j, Z.k, Z.l, Z.m] at h32
                  skip
                  refine RO.opgv (v' := .d (.int _ _)) rfl (opv_move rfl) rfl ?_
                  refine RO.opgv (v' := .d (.int _ _)) rfl (opv_move rfl) rfl ?_
                  refine RO.opgv (v' := .d (.bool _)) rfl (opv_bin rfl rfl rfl) rfl ?_
                  refine RO.opc (opv_pick rfl rfl) (fun h33 => ?_) (fun h33 => ?_)
                  · try simp only [Z.a, Z.b, Z.c, Z.d, Z.e, Z.f, Z.g, Z.h, Z.i, Z.j, Z.k, Z.l, Z.m] at h33
                    skip
                    refine RO.nil ?_
                    refine Runs.condT rfl ?_
                    refine Runs.has [(0, .own 0 _), (3, .d (.int _ _)), (4, .fn 19 _), (18, .d (.int _ _)), (24, .d (.int _ _))] ⟨rfl, rfl, rfl, rfl, rfl, trivial⟩ ?_
                    refine Runs.region ?_
                    refine RO.opv (v' := .own 0 _) (opv_move rfl) rfl ?_
                    refine RO.opv (v' := .d (.int _ _)) (opv_move rfl) rfl ?_
                    refine RO.opv (v' := .d (.int _ _)) (opv_move rfl) rfl ?_
                    refine RO.opv (v' := .d (.int _ _)) (opv_move rfl) rfl ?_
                    refine RO.opv (v' := .fn 19 _) (opv_move rfl) rfl ?_
                    refine RO.opn (O' := [_]) (opv_callP 1 (ih _ v mid e b (by omega) (by omega) (by omega) (by first | omega | (rw [hrl]; omega) | (rw [hsl, hrl]; omega) | (rw [hR] at hsl; rw [hsl]; omega)) (by first | omega | (rw [hrl]; omega) | (rw [hsl, hrl]; omega) | (rw [hR] at hsl; rw [hsl]; omega)) (by first | exact sA.2 | (rw [k4]; exact sA.2) | (rw [hR] at k4; rw [k4]; exact sA.2) | (rw [hS1] at k4; rw [k4]; exact sA.2) | (rw [hS1, hR] at k4; rw [k4]; exact sA.2)) (by first | exact sB.2 | (rw [k5]; exact sB.2) | (rw [hR] at k5; rw [k5]; exact sB.2) | (rw [hS1] at k5; rw [k5]; exact sB.2) | (rw [hS1, hR] at k5; rw [k5]; exact sB.2)) (by first | exact hbk | exact hrb | exact hsb | (rw [hR] at hsb; exact hsb))) rfl rfl (Nat.le_of_ble_eq_true rfl) rfl (AV.bds_of_B _ rfl)) rfl rfl ?_
                    refine RO.nil ?_
                    refine EndQ.none (.inl rfl) rfl 1 (by exact Nat.le_refl _) (by simp) ⟨rfl, ?_⟩
                    · first | (rw [hk, sym_one1 y1 (by omega) g3 hgX (all_seg y4) (all_seg (by rw [hij]; exact y5))] <;> rfl) | (rw [← hk, sym_one2 y1 (by omega) hgX (all_seg y4) (all_seg (by rw [hij]; exact y5))] <;> rfl) | (rw [← k1] <;> rfl) | (rw [← k1, hS2] <;> rfl) | (rw [← k1, hS2, hS1] <;> rfl) | (rw [← k1, hS2, hS1, hR] <;> rfl) | (rw [← k1, hS1] <;> rfl) | (rw [← k1, hS1, hR] <;> rfl) | (rw [← k1, hS2, hR] <;> rfl) | (rw [← k1, hR] <;> rfl)
                  · try simp only [Z.a, Z.b, Z.c, Z.d, Z.e, Z.f, Z.g, Z.h, Z.i, Z.j, Z.k, Z.l, Z.m] at h33
                    have hS2 : symF (symF (rotF l y.1 m e) a y.1 mid) mid e b = symF (rotF l y.1 m e) a y.1 mid := by
                      by_cases q : e = mid
                      · exact (congrArg (fun t => symF (symF (rotF l y.1 m e) a y.1 mid) mid t b) q).trans (symF_id1 (by omega) (by rw [hsl, hrl]; omega))
                      · exact (congrArg (fun t => symF (symF (rotF l y.1 m e) a y.1 mid) mid e t) (show b = e by omega)).trans (symF_id2 (by omega) (by rw [hsl, hrl]; omega))
                    refine RO.nil ?_
                    refine Runs.condF rfl ?_
                    refine Runs.skip ?_
                    refine EndQ.none (.inl rfl) rfl 1 (by exact Nat.le_refl _) (by simp) ⟨rfl, ?_⟩
                    · first | (rw [hk, sym_one1 y1 (by omega) g3 hgX (all_seg y4) (all_seg (by rw [hij]; exact y5))] <;> rfl) | (rw [← hk, sym_one2 y1 (by omega) hgX (all_seg y4) (all_seg (by rw [hij]; exact y5))] <;> rfl) | (rw [← k1] <;> rfl) | (rw [← k1, hS2] <;> rfl) | (rw [← k1, hS2, hS1] <;> rfl) | (rw [← k1, hS2, hS1, hR] <;> rfl) | (rw [← k1, hS1] <;> rfl) | (rw [← k1, hS1, hR] <;> rfl) | (rw [← k1, hS2, hR] <;> rfl) | (rw [← k1, hR] <;> rfl)
                · try simp only [Z.a, Z.b, Z.c, Z.d, Z.e, Z.f, Z.g, Z.h, Z.i, Z.j, Z.k, Z.l, Z.m] at h32
                  have hS2 : symF (symF (rotF l y.1 m e) a y.1 mid) mid e b = symF (rotF l y.1 m e) a y.1 mid := by
                    by_cases q : e = mid
                    · exact (congrArg (fun t => symF (symF (rotF l y.1 m e) a y.1 mid) mid t b) q).trans (symF_id1 (by omega) (by rw [hsl, hrl]; omega))
                    · exact (congrArg (fun t => symF (symF (rotF l y.1 m e) a y.1 mid) mid e t) (show b = e by omega)).trans (symF_id2 (by omega) (by rw [hsl, hrl]; omega))
                  refine RO.off rfl ?_
                  refine RO.off rfl ?_
                  refine RO.off rfl ?_
                  refine RO.opv (v' := .d (.bool false)) (opv_pick rfl rfl) rfl ?_
                  refine RO.nil ?_
                  refine Runs.condF rfl ?_
                  refine Runs.skip ?_
                  refine EndQ.none (.inl rfl) rfl 1 (by exact Nat.le_refl _) (by simp) ⟨rfl, ?_⟩
                  · first | (rw [hk, sym_one1 y1 (by omega) g3 hgX (all_seg y4) (all_seg (by rw [hij]; exact y5))] <;> rfl) | (rw [← hk, sym_one2 y1 (by omega) hgX (all_seg y4) (all_seg (by rw [hij]; exact y5))] <;> rfl) | (rw [← k1] <;> rfl) | (rw [← k1, hS2] <;> rfl) | (rw [← k1, hS2, hS1] <;> rfl) | (rw [← k1, hS2, hS1, hR] <;> rfl) | (rw [← k1, hS1] <;> rfl) | (rw [← k1, hS1, hR] <;> rfl) | (rw [← k1, hS2, hR] <;> rfl) | (rw [← k1, hR] <;> rfl)
              · try simp only [Z.a, Z.b, Z.c, Z.d, Z.e, Z.f, Z.g, Z.h, Z.i, Z.j, Z.k, Z.l, Z.m] at h31
                have hS1 : symF (rotF l y.1 m e) a y.1 mid = rotF l y.1 m e := by
                  by_cases q : y.1 = a
                  · exact (congrArg (fun t => symF (rotF l y.1 m e) a t mid) q).trans (symF_id1 (by omega) (by rw [hrl]; omega))
                  · exact (congrArg (fun t => symF (rotF l y.1 m e) a y.1 t) (show mid = y.1 by omega)).trans (symF_id2 (by omega) (by rw [hrl]; omega))
                refine RO.nil ?_
                refine Runs.condF rfl ?_
                refine Runs.skip ?_
                refine thenQ_normal ?_
                refine Runs.has [(0, .own 0 _), (3, .d (.int _ _)), (4, .fn 19 _), (18, .d (.int _ _)), (24, .d (.int _ _))] ⟨rfl, rfl, rfl, rfl, rfl, trivial⟩ ?_
                refine Runs.rseq ?_
                refine RO.opv (v' := .d (.int _ _)) (opv_move rfl) rfl ?_
                refine RO.opv (v' := .d (.int _ _)) (opv_move rfl) rfl ?_
                refine RO.opv (v' := .d (.bool _)) (opv_bin rfl rfl rfl) rfl ?_
                refine RO.opc (opv_move rfl) (fun h34 => ?_) (fun h34 => ?_)
                · try simp only [Z.a, Z.b, Z.c, Z.d, Z.e, Z.f, Z.g, Z.h, Z.i, Z.j, Z.k, Z.l, Z.m] at h34
                  skip
                  refine RO.opgv (v' := .d (.int _ _)) rfl (opv_move rfl) rfl ?_
                  refine RO.opgv (v' := .d (.int _ _)) rfl (opv_move rfl) rfl ?_
                  refine RO.opgv (v' := .d (.bool _)) rfl (opv_bin rfl rfl rfl) rfl ?_
                  refine RO.opc (opv_pick rfl rfl) (fun h35 => ?_) (fun h35 => ?_)
                  · try simp only [Z.a, Z.b, Z.c, Z.d, Z.e, Z.f, Z.g, Z.h, Z.i, Z.j, Z.k, Z.l, Z.m] at h35
                    skip
                    refine RO.nil ?_
                    refine Runs.condT rfl ?_
                    refine Runs.has [(0, .own 0 _), (3, .d (.int _ _)), (4, .fn 19 _), (18, .d (.int _ _)), (24, .d (.int _ _))] ⟨rfl, rfl, rfl, rfl, rfl, trivial⟩ ?_
                    refine Runs.region ?_
                    refine RO.opv (v' := .own 0 _) (opv_move rfl) rfl ?_
                    refine RO.opv (v' := .d (.int _ _)) (opv_move rfl) rfl ?_
                    refine RO.opv (v' := .d (.int _ _)) (opv_move rfl) rfl ?_
                    refine RO.opv (v' := .d (.int _ _)) (opv_move rfl) rfl ?_
                    refine RO.opv (v' := .fn 19 _) (opv_move rfl) rfl ?_
                    refine RO.opn (O' := [_]) (opv_callP 1 (ih _ v mid e b (by omega) (by omega) (by omega) (by first | omega | (rw [hrl]; omega) | (rw [hsl, hrl]; omega) | (rw [hR] at hsl; rw [hsl]; omega)) (by first | omega | (rw [hrl]; omega) | (rw [hsl, hrl]; omega) | (rw [hR] at hsl; rw [hsl]; omega)) (by first | exact sA.2 | (rw [k4]; exact sA.2) | (rw [hR] at k4; rw [k4]; exact sA.2) | (rw [hS1] at k4; rw [k4]; exact sA.2) | (rw [hS1, hR] at k4; rw [k4]; exact sA.2)) (by first | exact sB.2 | (rw [k5]; exact sB.2) | (rw [hR] at k5; rw [k5]; exact sB.2) | (rw [hS1] at k5; rw [k5]; exact sB.2) | (rw [hS1, hR] at k5; rw [k5]; exact sB.2)) (by first | exact hbk | exact hrb | exact hsb | (rw [hR] at hsb; exact hsb))) rfl rfl (Nat.le_of_ble_eq_true rfl) rfl (AV.bds_of_B _ rfl)) rfl rfl ?_
                    refine RO.nil ?_
                    refine EndQ.none (.inl rfl) rfl 1 (by exact Nat.le_refl _) (by simp) ⟨rfl, ?_⟩
                    · first | (rw [hk, sym_one1 y1 (by omega) g3 hgX (all_seg y4) (all_seg (by rw [hij]; exact y5))] <;> rfl) | (rw [← hk, sym_one2 y1 (by omega) hgX (all_seg y4) (all_seg (by rw [hij]; exact y5))] <;> rfl) | (rw [← k1] <;> rfl) | (rw [← k1, hS2] <;> rfl) | (rw [← k1, hS2, hS1] <;> rfl) | (rw [← k1, hS2, hS1, hR] <;> rfl) | (rw [← k1, hS1] <;> rfl) | (rw [← k1, hS1, hR] <;> rfl) | (rw [← k1, hS2, hR] <;> rfl) | (rw [← k1, hR] <;> rfl)
                  · try simp only [Z.a, Z.b, Z.c, Z.d, Z.e, Z.f, Z.g, Z.h, Z.i, Z.j, Z.k, Z.l, Z.m] at h35
                    have hS2 : symF (symF (rotF l y.1 m e) a y.1 mid) mid e b = symF (rotF l y.1 m e) a y.1 mid := by
                      by_cases q : e = mid
                      · exact (congrArg (fun t => symF (symF (rotF l y.1 m e) a y.1 mid) mid t b) q).trans (symF_id1 (by omega) (by rw [hsl, hrl]; omega))
                      · exact (congrArg (fun t => symF (symF (rotF l y.1 m e) a y.1 mid) mid e t) (show b = e by omega)).trans (symF_id2 (by omega) (by rw [hsl, hrl]; omega))
                    refine RO.nil ?_
                    refine Runs.condF rfl ?_
                    refine Runs.skip ?_
                    refine EndQ.none (.inl rfl) rfl 1 (by exact Nat.le_refl _) (by simp) ⟨rfl, ?_⟩
                    · first | (rw [hk, sym_one1 y1 (by omega) g3 hgX (all_seg y4) (all_seg (by rw [hij]; exact y5))] <;> rfl) | (rw [← hk, sym_one2 y1 (by omega) hgX (all_seg y4) (all_seg (by rw [hij]; exact y5))] <;> rfl) | (rw [← k1] <;> rfl) | (rw [← k1, hS2] <;> rfl) | (rw [← k1, hS2, hS1] <;> rfl) | (rw [← k1, hS2, hS1, hR] <;> rfl) | (rw [← k1, hS1] <;> rfl) | (rw [← k1, hS1, hR] <;> rfl) | (rw [← k1, hS2, hR] <;> rfl) | (rw [← k1, hR] <;> rfl)
                · try simp only [Z.a, Z.b, Z.c, Z.d, Z.e, Z.f, Z.g, Z.h, Z.i, Z.j, Z.k, Z.l, Z.m] at h34
                  have hS2 : symF (symF (rotF l y.1 m e) a y.1 mid) mid e b = symF (rotF l y.1 m e) a y.1 mid := by
                    by_cases q : e = mid
                    · exact (congrArg (fun t => symF (symF (rotF l y.1 m e) a y.1 mid) mid t b) q).trans (symF_id1 (by omega) (by rw [hsl, hrl]; omega))
                    · exact (congrArg (fun t => symF (symF (rotF l y.1 m e) a y.1 mid) mid e t) (show b = e by omega)).trans (symF_id2 (by omega) (by rw [hsl, hrl]; omega))
                  refine RO.off rfl ?_
                  refine RO.off rfl ?_
                  refine RO.off rfl ?_
                  refine RO.opv (v' := .d (.bool false)) (opv_pick rfl rfl) rfl ?_
                  refine RO.nil ?_
                  refine Runs.condF rfl ?_
                  refine Runs.skip ?_
                  refine EndQ.none (.inl rfl) rfl 1 (by exact Nat.le_refl _) (by simp) ⟨rfl, ?_⟩
                  · first | (rw [hk, sym_one1 y1 (by omega) g3 hgX (all_seg y4) (all_seg (by rw [hij]; exact y5))] <;> rfl) | (rw [← hk, sym_one2 y1 (by omega) hgX (all_seg y4) (all_seg (by rw [hij]; exact y5))] <;> rfl) | (rw [← k1] <;> rfl) | (rw [← k1, hS2] <;> rfl) | (rw [← k1, hS2, hS1] <;> rfl) | (rw [← k1, hS2, hS1, hR] <;> rfl) | (rw [← k1, hS1] <;> rfl) | (rw [← k1, hS1, hR] <;> rfl) | (rw [← k1, hS2, hR] <;> rfl) | (rw [← k1, hR] <;> rfl)
            · try simp only [Z.a, Z.b, Z.c, Z.d, Z.e, Z.f, Z.g, Z.h, Z.i, Z.j, Z.k, Z.l, Z.m] at h30
              have hS1 : symF (rotF l y.1 m e) a y.1 mid = rotF l y.1 m e := by
                by_cases q : y.1 = a
                · exact (congrArg (fun t => symF (rotF l y.1 m e) a t mid) q).trans (symF_id1 (by omega) (by rw [hrl]; omega))
                · exact (congrArg (fun t => symF (rotF l y.1 m e) a y.1 t) (show mid = y.1 by omega)).trans (symF_id2 (by omega) (by rw [hrl]; omega))
              refine RO.off rfl ?_
              refine RO.off rfl ?_
              refine RO.off rfl ?_
              refine RO.opv (v' := .d (.bool false)) (opv_pick rfl rfl) rfl ?_
              refine RO.nil ?_
              refine Runs.condF rfl ?_
              refine Runs.skip ?_
              refine thenQ_normal ?_
              refine Runs.has [(0, .own 0 _), (3, .d (.int _ _)), (4, .fn 19 _), (18, .d (.int _ _)), (24, .d (.int _ _))] ⟨rfl, rfl, rfl, rfl, rfl, trivial⟩ ?_
              refine Runs.rseq ?_
              refine RO.opv (v' := .d (.int _ _)) (opv_move rfl) rfl ?_
              refine RO.opv (v' := .d (.int _ _)) (opv_move rfl) rfl ?_
              refine RO.opv (v' := .d (.bool _)) (opv_bin rfl rfl rfl) rfl ?_
              refine RO.opc (opv_move rfl) (fun h36 => ?_) (fun h36 => ?_)
              · try simp only [Z.a, Z.b, Z.c, Z.d, Z.e, Z.f, Z.g, Z.h, Z.i, Z.j, Z.k, Z.l, Z.m] at h36
                skip
                refine RO.opgv (v' := .d (.int _ _)) rfl (opv_move rfl) rfl ?_
                refine RO.opgv (v' := .d (.int _ _)) rfl (opv_move rfl) rfl ?_
                refine RO.opgv (v' := .d (.bool _)) rfl (opv_bin rfl rfl rfl) rfl ?_
                refine RO.opc (opv_pick rfl rfl) (fun h37 => ?_) (fun h37 => ?_)
                · try simp only [Z.a, Z.b, Z.c, Z.d, Z.e, Z.f, Z.g, Z.h, Z.i, Z.j, Z.k, Z.l, Z.m] at h37
                  skip
                  refine RO.nil ?_
                  refine Runs.condT rfl ?_
                  refine Runs.has [(0, .own 0 _), (3, .d (.int _ _)), (4, .fn 19 _), (18, .d (.int _ _)), (24, .d (.int _ _))] ⟨rfl, rfl, rfl, rfl, rfl, trivial⟩ ?_
                  refine Runs.region ?_
                  refine RO.opv (v' := .own 0 _) (opv_move rfl) rfl ?_
                  refine RO.opv (v' := .d (.int _ _)) (opv_move rfl) rfl ?_
                  refine RO.opv (v' := .d (.int _ _)) (opv_move rfl) rfl ?_
                  refine RO.opv (v' := .d (.int _ _)) (opv_move rfl) rfl ?_
                  refine RO.opv (v' := .fn 19 _) (opv_move rfl) rfl ?_
                  refine RO.opn (O' := [_]) (opv_callP 1 (ih _ v mid e b (by omega) (by omega) (by omega) (by first | omega | (rw [hrl]; omega) | (rw [hsl, hrl]; omega) | (rw [hR] at hsl; rw [hsl]; omega)) (by first | omega | (rw [hrl]; omega) | (rw [hsl, hrl]; omega) | (rw [hR] at hsl; rw [hsl]; omega)) (by first | exact sA.2 | (rw [k4]; exact sA.2) | (rw [hR] at k4; rw [k4]; exact sA.2) | (rw [hS1] at k4; rw [k4]; exact sA.2) | (rw [hS1, hR] at k4; rw [k4]; exact sA.2)) (by first | exact sB.2 | (rw [k5]; exact sB.2) | (rw [hR] at k5; rw [k5]; exact sB.2) | (rw [hS1] at k5; rw [k5]; exact sB.2) | (rw [hS1, hR] at k5; rw [k5]; exact sB.2)) (by first | exact hbk | exact hrb | exact hsb | (rw [hR] at hsb; exact hsb))) rfl rfl (Nat.le_of_ble_eq_true rfl) rfl (AV.bds_of_B _ rfl)) rfl rfl ?_
                  refine RO.nil ?_
                  refine EndQ.none (.inl rfl) rfl 1 (by exact Nat.le_refl _) (by simp) ⟨rfl, ?_⟩
                  · first | (rw [hk, sym_one1 y1 (by omega) g3 hgX (all_seg y4) (all_seg (by rw [hij]; exact y5))] <;> rfl) | (rw [← hk, sym_one2 y1 (by omega) hgX (all_seg y4) (all_seg (by rw [hij]; exact y5))] <;> rfl) | (rw [← k1] <;> rfl) | (rw [← k1, hS2] <;> rfl) | (rw [← k1, hS2, hS1] <;> rfl) | (rw [← k1, hS2, hS1, hR] <;> rfl) | (rw [← k1, hS1] <;> rfl) | (rw [← k1, hS1, hR] <;> rfl) | (rw [← k1, hS2, hR] <;> rfl) | (rw [← k1, hR] <;> rfl)
                · try simp only [Z.a, Z.b, Z.c, Z.d, Z.e, Z.f, Z.g, Z.h, Z.i, Z.j, Z.k, Z.l, Z.m] at h37
                  have hS2 : symF (symF (rotF l y.1 m e) a y.1 mid) mid e b = symF (rotF l y.1 m e) a y.1 mid := by
                    by_cases q : e = mid
                    · exact (congrArg (fun t => symF (symF (rotF l y.1 m e) a y.1 mid) mid t b) q).trans (symF_id1 (by omega) (by rw [hsl, hrl]; omega))
                    · exact (congrArg (fun t => symF (symF (rotF l y.1 m e) a y.1 mid) mid e t) (show b = e by omega)).trans (symF_id2 (by omega) (by rw [hsl, hrl]; omega))
                  refine RO.nil ?_
                  refine Runs.condF rfl ?_
                  refine Runs.skip ?_
                  refine EndQ.none (.inl rfl) rfl 1 (by exact Nat.le_refl _) (by simp) ⟨rfl, ?_⟩
                  · first | (rw [hk, sym_one1 y1 (by omega) g3 hgX (all_seg y4) (all_seg (by rw [hij]; exact y5))] <;> rfl) | (rw [← hk, sym_one2 y1 (by omega) hgX (all_seg y4) (all_seg (by rw [hij]; exact y5))] <;> rfl) | (rw [← k1] <;> rfl) | (rw [← k1, hS2] <;> rfl) | (rw [← k1, hS2, hS1] <;> rfl) | (rw [← k1, hS2, hS1, hR] <;> rfl) | (rw [← k1, hS1] <;> rfl) | (rw [← k1, hS1, hR] <;> rfl) | (rw [← k1, hS2, hR] <;> rfl) | (rw [← k1, hR] <;> rfl)
              · try simp only [Z.a, Z.b, Z.c, Z.d, Z.e, Z.f, Z.g, Z.h, Z.i, Z.j, Z.k, Z.l, Z.m] at h36
                have hS2 : symF (symF (rotF l y.1 m e) a y.1 mid) mid e b = symF (rotF l y.1 m e) a y.1 mid := by
                  by_cases q : e = mid
                  · exact (congrArg (fun t => symF (symF (rotF l y.1 m e) a y.1 mid) mid t b) q).trans (symF_id1 (by omega) (by rw [hsl, hrl]; omega))
                  · exact (congrArg (fun t => symF (symF (rotF l y.1 m e) a y.1 mid) mid e t) (show b = e by omega)).trans (symF_id2 (by omega) (by rw [hsl, hrl]; omega))
                refine RO.off rfl ?_
                refine RO.off rfl ?_
                refine RO.off rfl ?_
                refine RO.opv (v' := .d (.bool false)) (opv_pick rfl rfl) rfl ?_
                refine RO.nil ?_
                refine Runs.condF rfl ?_
                refine Runs.skip ?_
                refine EndQ.none (.inl rfl) rfl 1 (by exact Nat.le_refl _) (by simp) ⟨rfl, ?_⟩
                · first | (rw [hk, sym_one1 y1 (by omega) g3 hgX (all_seg y4) (all_seg (by rw [hij]; exact y5))] <;> rfl) | (rw [← hk, sym_one2 y1 (by omega) hgX (all_seg y4) (all_seg (by rw [hij]; exact y5))] <;> rfl) | (rw [← k1] <;> rfl) | (rw [← k1, hS2] <;> rfl) | (rw [← k1, hS2, hS1] <;> rfl) | (rw [← k1, hS2, hS1, hR] <;> rfl) | (rw [← k1, hS1] <;> rfl) | (rw [← k1, hS1, hR] <;> rfl) | (rw [← k1, hS2, hR] <;> rfl) | (rw [← k1, hR] <;> rfl)
      · try simp only [Z.a, Z.b, Z.c, Z.d, Z.e, Z.f, Z.g, Z.h, Z.i, Z.j, Z.k, Z.l, Z.m] at h9
        have hmm : m ≤ mid := by omega
        refine RO.nil ?_
        refine Runs.condF rfl ?_
        refine Runs.has [(0, .own 0 _), (1, .d (.int _ _)), (2, .d (.int _ _)), (3, .d (.int _ _)), (4, .fn 19 _), (18, .d (.int _ _)), (19, .d (.int _ _)), (20, .d (.int _ _)), (21, .d (.int _ _))] ⟨rfl, rfl, rfl, rfl, rfl, rfl, rfl, rfl, rfl, trivial⟩ ?_
        refine Runs.rseq ?_
        refine RO.opv (v' := .d (.int _ _)) (opv_move rfl) rfl ?_
        refine RO.opv (v' := .d (.int _ _)) (opv_assign rfl) rfl ?_
        refine RO.nil ?_
        refine Runs.has [(0, .own 0 _), (1, .d (.int _ _)), (2, .d (.int _ _)), (3, .d (.int _ _)), (4, .fn 19 _), (18, .d (.int _ _)), (19, .d (.int _ _)), (20, .d (.int _ _)), (21, .d (.int _ _))] ⟨rfl, rfl, rfl, rfl, rfl, rfl, rfl, rfl, rfl, trivial⟩ ?_
        refine Runs.region ?_
        refine RO.opv (v' := .d (.int _ _)) (opv_move rfl) rfl ?_
        refine RO.opv (v' := .d (.int _ _)) (opv_assign rfl) rfl ?_
        refine RO.nil ?_
        refine thenQ_normal ?_
        refine Runs.has [(0, .own 0 _), (1, .d (.int _ _)), (2, .d (.int _ _)), (3, .d (.int _ _)), (4, .fn 19 _), (18, .d (.int _ _)), (19, .d (.int _ _)), (20, .d (.int _ _)), (21, .d (.int _ _))] ⟨rfl, rfl, rfl, rfl, rfl, rfl, rfl, rfl, rfl, trivial⟩ ?_
        refine Runs.rseq ?_
        refine RO.opv (v' := .d (.int _ _)) (opv_move rfl) rfl ?_
        refine RO.opv (v' := .d (.int _ _)) (opv_arith (r := ((mid + m - 1 : Nat) : Int)) rfl rfl (by simp only [binD, if_true]; rw [wrap64 (by omega) (by omega)]; congr 2; omega)) rfl ?_
        refine RO.opv (v' := .d (.int _ _)) (opv_assign rfl) rfl ?_
        refine RO.nil ?_
        refine Runs.has [(0, .own 0 _), (1, .d (.int _ _)), (2, .d (.int _ _)), (3, .d (.int _ _)), (4, .fn 19 _), (18, .d (.int _ _)), (19, .d (.int _ _)), (20, .d (.int _ _)), (21, .d (.int _ _)), (22, .d (.int _ _))] ⟨rfl, rfl, rfl, rfl, rfl, rfl, rfl, rfl, rfl, rfl, trivial⟩ ?_
        refine Runs.seq ?_
        refine Runs.block ?_
        refine Runs.loopC (X := (Nat × Nat)) (fun y => a ≤ y.1 ∧ y.1 ≤ y.2 ∧ y.2 ≤ m ∧ y.2 ≤ mid ∧ mid + m - y.1 ≤ b ∧ LeAt l a y.1 (mid + m - y.1) b ∧ LtAt l y.2 m (mid + m - y.2)) (fun y => y.2 - y.1) [(0, .own 0 _), (1, .d (.int _ _)), (2, .d (.int _ _)), (3, .d (.int _ _)), (4, .fn 19 _), (18, .d (.int _ _)), (19, .d (.int _ _)), (22, .d (.int _ _))] (fun y => [(20, .d (.int .i64 ((y.1 : Nat) : Int))), (21, .d (.int .i64 ((y.2 : Nat) : Int)))]) [] (fun y => [.buf 24 4 (encs l) v]) ((a, m)) ⟨rfl, rfl, rfl, rfl, rfl, rfl, rfl, rfl, trivial⟩ ⟨rfl, rfl, trivial⟩ rfl ⟨by show a ≤ a; omega, by show a ≤ m; omega, by show m ≤ m; omega, by show m ≤ mid; omega, by show mid + m - (a) ≤ b; omega, fun q1 q2 => absurd q1 (by show ¬ a < a; omega), fun q1 q2 => absurd q1 (by show ¬ m < m; omega)⟩ fun y hy => ?_
        obtain ⟨y1, y2, y3, y4, y5, y6, y7⟩ := hy
        refine Runs.seq ?_
        refine Runs.rseq ?_
        refine RO.opv (v' := .d (.int _ _)) (opv_move rfl) rfl ?_
        refine RO.opv (v' := .d (.int _ _)) (opv_move rfl) rfl ?_
        refine RO.opc (opv_bin rfl rfl rfl) (fun h38 => ?_) (fun h38 => ?_)
        · try simp only [Z.a, Z.b, Z.c, Z.d, Z.e, Z.f, Z.g, Z.h, Z.i, Z.j, Z.k, Z.l, Z.m] at h38
          have hij : y.1 < y.2 := by omega
          obtain ⟨h, hh⟩ : ∃ h, h = (y.1 + y.2) / 2 := ⟨_, rfl⟩
          have hh1 : y.1 ≤ h ∧ h < y.2 := by omega
          have hsh : (y.1 + y.2) >>> 1 = h := by rw [Nat.shiftRight_eq_div_pow, Nat.pow_one]; omega
          obtain ⟨Y, hgY⟩ : ∃ Y, l[h]? = some Y := ⟨_, List.getElem?_eq_getElem (by omega)⟩
          obtain ⟨U, hgU⟩ : ∃ U, l[mid + m - 1 - h]? = some U := ⟨_, List.getElem?_eq_getElem (by omega)⟩
          refine RO.nil ?_
          refine Runs.condT rfl ?_
          refine Runs.skip ?_
          refine thenQ_normal ?_
          refine Runs.block ?_
          refine Runs.has [(0, .own 0 _), (1, .d (.int _ _)), (2, .d (.int _ _)), (3, .d (.int _ _)), (4, .fn 19 _), (18, .d (.int _ _)), (19, .d (.int _ _)), (20, .d (.int _ _)), (21, .d (.int _ _)), (22, .d (.int _ _))] ⟨rfl, rfl, rfl, rfl, rfl, rfl, rfl, rfl, rfl, rfl, trivial⟩ ?_
          refine Runs.rseq ?_
          refine RO.opv (v' := .d (.int _ _)) (opv_move rfl) rfl ?_
          refine RO.opv (v' := .d (.int _ _)) (opv_move rfl) rfl ?_
          refine RO.opv (v' := .d (.int _ _)) (opv_arith (r := ((y.1 + y.2 : Nat) : Int)) rfl rfl (by simp only [binD, if_true]; rw [wrap64 (by omega) (by omega)]; congr 2)) rfl ?_
          refine RO.opv (v' := .d (.int _ _)) (opv_conv (r := ((y.1 + y.2 : Nat) : Int)) rfl (wrapu (by omega) (by omega))) rfl ?_
          refine RO.opv (v' := .d (.int _ _)) (opv_shr (b := 1) rfl rfl (by decide)) rfl ?_
          refine RO.opv (v' := .d (.int _ _)) (opv_conv (r := ((h : Nat) : Int)) rfl (by rw [hsh]; exact wrap64 (by omega) (by omega))) rfl ?_
          refine RO.opv (v' := .d (.int _ _)) (opv_assign rfl) rfl ?_
          refine RO.nil ?_
          refine Runs.has [(0, .own 0 _), (1, .d (.int _ _)), (2, .d (.int _ _)), (3, .d (.int _ _)), (4, .fn 19 _), (18, .d (.int _ _)), (19, .d (.int _ _)), (20, .d (.int _ _)), (21, .d (.int _ _)), (22, .d (.int _ _)), (23, .d (.int _ _))] ⟨rfl, rfl, rfl, rfl, rfl, rfl, rfl, rfl, rfl, rfl, rfl, trivial⟩ ?_
          refine Runs.seq ?_
          refine Runs.drawn (by kernel_rfl) [] [false, false, false, false, false, false, false, false, false, false, false, false, false, false] [false, false, false, false, false, false, false, false, false, false, false, false, false, false] (by decide +kernel) ?_
          refine RD.opv (v' := .fn 19 _) (opv_move rfl) rfl ?_
          refine RD.opv (v' := .own 0 _) (opv_move rfl) rfl ?_
          refine RD.opv (v' := .d (.int _ _)) (opv_move rfl) rfl ?_
          refine RD.opv (v' := .d (.int _ _)) (opv_move rfl) rfl ?_
          refine RD.opv (v' := .d (.int _ _)) (opv_arith (r := ((mid + m - 1 - h : Nat) : Int)) rfl rfl (by simp only [binD, if_true]; rw [wrap64 (by omega) (by omega)]; congr 2; omega)) rfl ?_
          refine RD.opv (v' := .oel 0 _ _ 0) (opv_index_oterm rfl rfl rfl (by omega)) rfl ?_
          refine RD.opv (v' := .d (enc _)) (opv_load_oterm rfl rfl hgU) rfl ?_
          refine RD.opv (v' := .own 0 _) (opv_move rfl) rfl ?_
          refine RD.opv (v' := .d (.int _ _)) (opv_move rfl) rfl ?_
          refine RD.opv (v' := .oel 0 _ _ 0) (opv_index_oterm rfl rfl rfl (by omega)) rfl ?_
          refine RD.opv (v' := .d (enc _)) (opv_load_oterm rfl rfl hgY) rfl ?_
          refine RD.opv (v' := .d (.int _ _)) (opv_callF (compare_fn U Y (hbk U (List.mem_of_getElem? hgU)) (hbk Y (List.mem_of_getElem? hgY))) rfl rfl rfl trivial) rfl ?_
          refine RD.opv (v' := .d (.bool _)) (opv_bin rfl rfl rfl) rfl ?_
          refine RD.opc (opv_not rfl rfl) (fun h39 => ?_) (fun h39 => ?_)
          · try simp only [Z.a, Z.b, Z.c, Z.d, Z.e, Z.f, Z.g, Z.h, Z.i, Z.j, Z.k, Z.l, Z.m] at h39
            have hc : ¬ compareT U Y < 0 := by omega
            refine RD.nil ?_
            refine thenQ_normal ?_
            refine Runs.condT rfl ?_
            refine Runs.has [(0, .own 0 _), (1, .d (.int _ _)), (2, .d (.int _ _)), (3, .d (.int _ _)), (4, .fn 19 _), (18, .d (.int _ _)), (19, .d (.int _ _)), (20, .d (.int _ _)), (21, .d (.int _ _)), (22, .d (.int _ _)), (23, .d (.int _ _))] ⟨rfl, rfl, rfl, rfl, rfl, rfl, rfl, rfl, rfl, rfl, rfl, trivial⟩ ?_
            refine Runs.region ?_
            refine RO.opv (v' := .d (.int _ _)) (opv_move rfl) rfl ?_
            refine RO.opv (v' := .d (.int _ _)) (opv_arith (r := ((h + 1 : Nat) : Int)) rfl rfl (by simp only [binD, if_true]; rw [wrap64 (by omega) (by omega)]; congr 2)) rfl ?_
            refine RO.opv (v' := .d (.int _ _)) (opv_assign rfl) rfl ?_
            refine RO.nil ?_
            refine blockQ_normal ?_
            refine thenQ_normal ?_
            refine ⟨(h + 1, y.2), 1, (by rw [hK]; exact Nat.le_of_ble_eq_true rfl), ⟨rfl, rfl, rfl, rfl, rfl, rfl, rfl, rfl, trivial⟩, ⟨?_, ?_, trivial⟩, rfl, ?_, ?_⟩
            · rfl
            · rfl
            · refine ⟨by show a ≤ h + 1; omega, by show h + 1 ≤ y.2; omega, y3, y4, by show mid + m - (h + 1) ≤ b; omega, fun _ _ => ⟨Y, U, by show l[h + 1 - 1]? = _; rw [Nat.add_sub_cancel]; exact hgY, by show l[mid + m - (h + 1)]? = _; rw [← hgU]; congr 1; omega, by have := cT_neg Y U; omega⟩, y7⟩
            · first | (show y.2 - (h + 1) < _; omega) | (show h - y.1 < _; omega)
          · try simp only [Z.a, Z.b, Z.c, Z.d, Z.e, Z.f, Z.g, Z.h, Z.i, Z.j, Z.k, Z.l, Z.m] at h39
            have hc : compareT U Y < 0 := by omega
            refine RD.nil ?_
            refine thenQ_normal ?_
            refine Runs.condF rfl ?_
            refine Runs.has [(0, .own 0 _), (1, .d (.int _ _)), (2, .d (.int _ _)), (3, .d (.int _ _)), (4, .fn 19 _), (18, .d (.int _ _)), (19, .d (.int _ _)), (20, .d (.int _ _)), (21, .d (.int _ _)), (22, .d (.int _ _)), (23, .d (.int _ _))] ⟨rfl, rfl, rfl, rfl, rfl, rfl, rfl, rfl, rfl, rfl, rfl, trivial⟩ ?_
            refine Runs.region ?_
            refine RO.opv (v' := .d (.int _ _)) (opv_move rfl) rfl ?_
            refine RO.opv (v' := .d (.int _ _)) (opv_assign rfl) rfl ?_
            refine RO.nil ?_
            refine blockQ_normal ?_
            refine thenQ_normal ?_
            refine ⟨(y.1, h), 1, (by rw [hK]; exact Nat.le_of_ble_eq_true rfl), ⟨rfl, rfl, rfl, rfl, rfl, rfl, rfl, rfl, trivial⟩, ⟨?_, ?_, trivial⟩, rfl, ?_, ?_⟩
            · rfl
            · rfl
            · refine ⟨y1, by show y.1 ≤ h; omega, by show h ≤ m; omega, by show h ≤ mid; omega, y5, y6, fun _ _ => ⟨Y, U, hgY, by show l[mid + m - h - 1]? = _; rw [← hgU]; congr 1; omega, hc⟩⟩
            · first | (show y.2 - (h + 1) < _; omega) | (show h - y.1 < _; omega)
        · try simp only [Z.a, Z.b, Z.c, Z.d, Z.e, Z.f, Z.g, Z.h, Z.i, Z.j, Z.k, Z.l, Z.m] at h38
          have hse : y.1 = y.2 := by omega
          obtain ⟨e, he⟩ : ∃ e, e = mid + m - y.1 := ⟨_, rfl⟩
          rw [← he] at y5 y6
          rw [← hse, ← he] at y7
          have hc1 := search_le (e := e) y1 (by omega) (by omega) y5 g3 hs1 hs2 y6
          have hc2 := search_lt (e := e) y1 (by omega) (by omega) y5 g3 hs1 hs2 y7
          obtain ⟨k1, k2, k3, k4, k5⟩ := sym_step (mid := mid) y1 (by omega) (by omega) y5 g3 (by omega) hc1 hc2
          have sA := so_left (k := y.1) y1 (by omega) (by omega) hs1
          have sB := so_left (k := e) (by omega) y5 g3 hs2
          have hrl := rotF_len (l := l) (a := y.1) (m := m) (b := e) (by omega) (by omega) (by omega)
          have hrb : ∀ x ∈ rotF l y.1 m e, x.bulk ≤ 2 ^ 30 := fun x hx => hbk x (rotF_mem hx)
          have hsl := symF_len (l := rotF l y.1 m e) (a := a) (m := y.1) (b := mid) (by omega) (by omega) (by omega)
          have hsb : ∀ x ∈ symF (rotF l y.1 m e) a y.1 mid, x.bulk ≤ 2 ^ 30 := fun x hx => hrb x (symF_mem hx)
          refine RO.nil ?_
          refine Runs.condF rfl ?_
          refine Runs.exit ?_
          refine thenQ_exit ?_
          refine thenQ_exit ?_
          refine blockQ_here ?_
          refine thenQ_normal ?_
          refine Runs.has [(0, .own 0 _), (1, .d (.int _ _)), (2, .d (.int _ _)), (3, .d (.int _ _)), (4, .fn 19 _), (18, .d (.int _ _)), (19, .d (.int _ _)), (20, .d (.int _ _))] ⟨rfl, rfl, rfl, rfl, rfl, rfl, rfl, rfl, trivial⟩ ?_
          refine Runs.rseq ?_
          refine RO.opv (v' := .d (.int _ _)) (opv_move rfl) rfl ?_
          refine RO.opv (v' := .d (.int _ _)) (opv_move rfl) rfl ?_
          refine RO.opv (v' := .d (.int _ _)) (opv_arith (r := ((e : Nat) : Int)) rfl rfl (by simp only [binD, if_true]; rw [wrap64 (by omega) (by omega)]; congr 2; omega)) rfl ?_
          refine RO.opv (v' := .d (.int _ _)) (opv_assign rfl) rfl ?_
          refine RO.nil ?_
          refine Runs.has [(0, .own 0 _), (1, .d (.int _ _)), (2, .d (.int _ _)), (3, .d (.int _ _)), (4, .fn 19 _), (18, .d (.int _ _)), (20, .d (.int _ _)), (24, .d (.int _ _))] ⟨rfl, rfl, rfl, rfl, rfl, rfl, rfl, rfl, trivial⟩ ?_
          refine Runs.seq ?_
          refine Runs.rseq ?_
          refine RO.opv (v' := .d (.int _ _)) (opv_move rfl) rfl ?_
          refine RO.opv (v' := .d (.int _ _)) (opv_move rfl) rfl ?_
          refine RO.opv (v' := .d (.bool _)) (opv_bin rfl rfl rfl) rfl ?_
          refine RO.opc (opv_move rfl) (fun h40 => ?_) (fun h40 => ?_)
          · try simp only [Z.a, Z.b, Z.c, Z.d, Z.e, Z.f, Z.g, Z.h, Z.i, Z.j, Z.k, Z.l, Z.m] at h40
            skip
            refine RO.opgv (v' := .d (.int _ _)) rfl (opv_move rfl) rfl ?_
            refine RO.opgv (v' := .d (.int _ _)) rfl (opv_move rfl) rfl ?_
            refine RO.opgv (v' := .d (.bool _)) rfl (opv_bin rfl rfl rfl) rfl ?_
            refine RO.opc (opv_pick rfl rfl) (fun h41 => ?_) (fun h41 => ?_)
            · try simp only [Z.a, Z.b, Z.c, Z.d, Z.e, Z.f, Z.g, Z.h, Z.i, Z.j, Z.k, Z.l, Z.m] at h41
              skip
              refine RO.nil ?_
              refine Runs.condT rfl ?_
              refine Runs.has [(0, .own 0 _), (1, .d (.int _ _)), (2, .d (.int _ _)), (3, .d (.int _ _)), (4, .fn 19 _), (18, .d (.int _ _)), (20, .d (.int _ _)), (24, .d (.int _ _))] ⟨rfl, rfl, rfl, rfl, rfl, rfl, rfl, rfl, trivial⟩ ?_
              refine Runs.region ?_
              refine RO.opv (v' := .own 0 _) (opv_move rfl) rfl ?_
              refine RO.opv (v' := .d (.int _ _)) (opv_move rfl) rfl ?_
              refine RO.opv (v' := .d (.int _ _)) (opv_move rfl) rfl ?_
              refine RO.opv (v' := .d (.int _ _)) (opv_move rfl) rfl ?_
              refine RO.opv (v' := .fn 19 _) (opv_move rfl) rfl ?_
              refine RO.opn (O' := [_]) (opv_callP 1 (rot_fn l v y.1 m e (by omega) (by omega) (by omega) hl) rfl rfl (Nat.le_of_ble_eq_true rfl) rfl (AV.bds_of_B _ rfl)) rfl rfl ?_
              refine RO.nil ?_
              refine thenQ_normal ?_
              refine Runs.has [(0, .own 0 _), (1, .d (.int _ _)), (3, .d (.int _ _)), (4, .fn 19 _), (18, .d (.int _ _)), (20, .d (.int _ _)), (24, .d (.int _ _))] ⟨rfl, rfl, rfl, rfl, rfl, rfl, rfl, trivial⟩ ?_
              refine Runs.seq ?_
              refine Runs.rseq ?_
              refine RO.opv (v' := .d (.int _ _)) (opv_move rfl) rfl ?_
              refine RO.opv (v' := .d (.int _ _)) (opv_move rfl) rfl ?_
              refine RO.opv (v' := .d (.bool _)) (opv_bin rfl rfl rfl) rfl ?_
              refine RO.opc (opv_move rfl) (fun h42 => ?_) (fun h42 => ?_)
              · try simp only [Z.a, Z.b, Z.c, Z.d, Z.e, Z.f, Z.g, Z.h, Z.i, Z.j, Z.k, Z.l, Z.m] at h42
                skip
                refine RO.opgv (v' := .d (.int _ _)) rfl (opv_move rfl) rfl ?_
                refine RO.opgv (v' := .d (.int _ _)) rfl (opv_move rfl) rfl ?_
                refine RO.opgv (v' := .d (.bool _)) rfl (opv_bin rfl rfl rfl) rfl ?_
                refine RO.opc (opv_pick rfl rfl) (fun h43 => ?_) (fun h43 => ?_)
                · try simp only [Z.a, Z.b, Z.c, Z.d, Z.e, Z.f, Z.g, Z.h, Z.i, Z.j, Z.k, Z.l, Z.m] at h43
                  skip
                  refine RO.nil ?_
                  refine Runs.condT rfl ?_
                  refine Runs.has [(0, .own 0 _), (1, .d (.int _ _)), (3, .d (.int _ _)), (4, .fn 19 _), (18, .d (.int _ _)), (20, .d (.int _ _)), (24, .d (.int _ _))] ⟨rfl, rfl, rfl, rfl, rfl, rfl, rfl, trivial⟩ ?_
                  refine Runs.region ?_
                  refine RO.opv (v' := .own 0 _) (opv_move rfl) rfl ?_
                  refine RO.opv (v' := .d (.int _ _)) (opv_move rfl) rfl ?_
                  refine RO.opv (v' := .d (.int _ _)) (opv_move rfl) rfl ?_
                  refine RO.opv (v' := .d (.int _ _)) (opv_move rfl) rfl ?_
                  refine RO.opv (v' := .fn 19 _) (opv_move rfl) rfl ?_
                  refine RO.opn (O' := [_]) (opv_callP 1 (ih _ v a y.1 mid (by omega) (by omega) (by omega) (by first | omega | (rw [hrl]; omega) | (rw [hsl, hrl]; omega) | (rw [hR] at hsl; rw [hsl]; omega)) (by first | omega | (rw [hrl]; omega) | (rw [hsl, hrl]; omega) | (rw [hR] at hsl; rw [hsl]; omega)) (by first | exact sA.1 | (rw [k2]; exact sA.1) | (rw [hR] at k2; rw [k2]; exact sA.1) | (rw [hS1] at k2; rw [k2]; exact sA.1) | (rw [hS1, hR] at k2; rw [k2]; exact sA.1)) (by first | exact sB.1 | (rw [k3]; exact sB.1) | (rw [hR] at k3; rw [k3]; exact sB.1) | (rw [hS1] at k3; rw [k3]; exact sB.1) | (rw [hS1, hR] at k3; rw [k3]; exact sB.1)) (by first | exact hbk | exact hrb | exact hsb | (rw [hR] at hsb; exact hsb))) rfl rfl (Nat.le_of_ble_eq_true rfl) rfl (AV.bds_of_B _ rfl)) rfl rfl ?_
                  refine RO.nil ?_
                  refine thenQ_normal ?_
                  refine Runs.has [(0, .own 0 _), (3, .d (.int _ _)), (4, .fn 19 _), (18, .d (.int _ _)), (24, .d (.int _ _))] ⟨rfl, rfl, rfl, rfl, rfl, trivial⟩ ?_
                  refine Runs.rseq ?_
                  refine RO.opv (v' := .d (.int _ _)) (opv_move rfl) rfl ?_
                  refine RO.opv (v' := .d (.int _ _)) (opv_move rfl) rfl ?_
                  refine RO.opv (v' := .d (.bool _)) (opv_bin rfl rfl rfl) rfl ?_
                  refine RO.opc (opv_move rfl) (fun h44 => ?_) (fun h44 => ?_)
                  · try simp only [Z.a, Z.b, Z.c, Z.d, Z.e, Z.f, Z.g, Z.h, Z.i, Z.j, Z.k, Z.l, Z.m] at h44
                    skip
                    refine RO.opgv (v' := .d (.int _ _)) rfl (opv_move rfl) rfl ?_
                    refine RO.opgv (v' := .d (.int _ _)) rfl (opv_move rfl) rfl ?_
                    refine RO.opgv (v' := .d (.bool _)) rfl (opv_bin rfl rfl rfl) rfl ?_
                    refine RO.opc (opv_pick rfl rfl) (fun h45 => ?_) (fun h45 => ?_)
                    · try simp only [Z.a, Z.b, Z.c, Z.d, Z.e, Z.f, Z.g, Z.h, Z.i, Z.j, Z.k, Z.l, Z.m] at h45
                      skip
                      refine RO.nil ?_
                      refine Runs.condT rfl ?_
                      refine Runs.has [(0, .own 0 _), (3, .d (.int _ _)), (4, .fn 19 _), (18, .d (.int _ _)), (24, .d (.int _ _))] ⟨rfl, rfl, rfl, rfl, rfl, trivial⟩ ?_
                      refine Runs.region ?_
                      refine RO.opv (v' := .own 0 _) (opv_move rfl) rfl ?_
                      refine RO.opv (v' := .d (.int _ _)) (opv_move rfl) rfl ?_
                      refine RO.opv (v' := .d (.int _ _)) (opv_move rfl) rfl ?_
                      refine RO.opv (v' := .d (.int _ _)) (opv_move rfl) rfl ?_
                      refine RO.opv (v' := .fn 19 _) (opv_move rfl) rfl ?_
                      refine RO.opn (O' := [_]) (opv_callP 1 (ih _ v mid e b (by omega) (by omega) (by omega) (by first | omega | (rw [hrl]; omega) | (rw [hsl, hrl]; omega) | (rw [hR] at hsl; rw [hsl]; omega)) (by first | omega | (rw [hrl]; omega) | (rw [hsl, hrl]; omega) | (rw [hR] at hsl; rw [hsl]; omega)) (by first | exact sA.2 | (rw [k4]; exact sA.2) | (rw [hR] at k4; rw [k4]; exact sA.2) | (rw [hS1] at k4; rw [k4]; exact sA.2) | (rw [hS1, hR] at k4; rw [k4]; exact sA.2)) (by first | exact sB.2 | (rw [k5]; exact sB.2) | (rw [hR] at k5; rw [k5]; exact sB.2) | (rw [hS1] at k5; rw [k5]; exact sB.2) | (rw [hS1, hR] at k5; rw [k5]; exact sB.2)) (by first | exact hbk | exact hrb | exact hsb | (rw [hR] at hsb; exact hsb))) rfl rfl (Nat.le_of_ble_eq_true rfl) rfl (AV.bds_of_B _ rfl)) rfl rfl ?_
                      refine RO.nil ?_
                      refine EndQ.none (.inl rfl) rfl 1 (by exact Nat.le_refl _) (by simp) ⟨rfl, ?_⟩
                      · first | (rw [hk, sym_one1 y1 (by omega) g3 hgX (all_seg y4) (all_seg (by rw [hij]; exact y5))] <;> rfl) | (rw [← hk, sym_one2 y1 (by omega) hgX (all_seg y4) (all_seg (by rw [hij]; exact y5))] <;> rfl) | (rw [← k1] <;> rfl) | (rw [← k1, hS2] <;> rfl) | (rw [← k1, hS2, hS1] <;> rfl) | (rw [← k1, hS2, hS1, hR] <;> rfl) | (rw [← k1, hS1] <;> rfl) | (rw [← k1, hS1, hR] <;> rfl) | (rw [← k1, hS2, hR] <;> rfl) | (rw [← k1, hR] <;> rfl)
                    · try simp only [Z.a, Z.b, Z.c, Z.d, Z.e, Z.f, Z.g, Z.h, Z.i, Z.j, Z.k, Z.l, Z.m] at h45
                      have hS2 : symF (symF (rotF l y.1 m e) a y.1 mid) mid e b = symF (rotF l y.1 m e) a y.1 mid := by
                        by_cases q : e = mid
                        · exact (congrArg (fun t => symF (symF (rotF l y.1 m e) a y.1 mid) mid t b) q).trans (symF_id1 (by omega) (by rw [hsl, hrl]; omega))
                        · exact (congrArg (fun t => symF (symF (rotF l y.1 m e) a y.1 mid) mid e t) (show b = e by omega)).trans (symF_id2 (by omega) (by rw [hsl, hrl]; omega))
                      refine RO.nil ?_
                      refine Runs.condF rfl ?_
                      refine Runs.skip ?_
                      refine EndQ.none (.inl rfl) rfl 1 (by exact Nat.le_refl _) (by simp) ⟨rfl, ?_⟩
                      · first | (rw [hk, sym_one1 y1 (by omega) g3 hgX (all_seg y4) (all_seg (by rw [hij]; exact y5))] <;> rfl) | (rw [← hk, sym_one2 y1 (by omega) hgX (all_seg y4) (all_seg (by rw [hij]; exact y5))] <;> rfl) | (rw [← k1] <;> rfl) | (rw [← k1, hS2] <;> rfl) | (rw [← k1, hS2, hS1] <;> rfl) | (rw [← k1, hS2, hS1, hR] <;> rfl) | (rw [← k1, hS1] <;> rfl) | (rw [← k1, hS1, hR] <;> rfl) | (rw [← k1, hS2, hR] <;> rfl) | (rw [← k1, hR] <;> rfl)
                  · try simp only [Z.a, Z.b, Z.c, Z.d, Z.e, Z.f, Z.g, Z.h, Z.i, Z.j, Z.k, Z.l, Z.m] at h44
                    have hS2 : symF (symF (rotF l y.1 m e) a y.1 mid) mid e b = symF (rotF l y.1 m e) a y.1 mid := by
                      by_cases q : e = mid
                      · exact (congrArg (fun t => symF (symF (rotF l y.1 m e) a y.1 mid) mid t b) q).trans (symF_id1 (by omega) (by rw [hsl, hrl]; omega))
                      · exact (congrArg (fun t => symF (symF (rotF l y.1 m e) a y.1 mid) mid e t) (show b = e by omega)).trans (symF_id2 (by omega) (by rw [hsl, hrl]; omega))
                    refine RO.off rfl ?_
                    refine RO.off rfl ?_
                    refine RO.off rfl ?_
                    refine RO.opv (v' := .d (.bool false)) (opv_pick rfl rfl) rfl ?_
                    refine RO.nil ?_
                    refine Runs.condF rfl ?_
                    refine Runs.skip ?_
                    refine EndQ.none (.inl rfl) rfl 1 (by exact Nat.le_refl _) (by simp) ⟨rfl, ?_⟩
                    · first | (rw [hk, sym_one1 y1 (by omega) g3 hgX (all_seg y4) (all_seg (by rw [hij]; exact y5))] <;> rfl) | (rw [← hk, sym_one2 y1 (by omega) hgX (all_seg y4) (all_seg (by rw [hij]; exact y5))] <;> rfl) | (rw [← k1] <;> rfl) | (rw [← k1, hS2] <;> rfl) | (rw [← k1, hS2, hS1] <;> rfl) | (rw [← k1, hS2, hS1, hR] <;> rfl) | (rw [← k1, hS1] <;> rfl) | (rw [← k1, hS1, hR] <;> rfl) | (rw [← k1, hS2, hR] <;> rfl) | (rw [← k1, hR] <;> rfl)
                · try simp only [Z.a, Z.b, Z.c, Z.d, Z.e, Z.f, Z.g, Z.h, Z.i, Z.j, Z.k, Z.l, Z.m] at h43
                  have hS1 : symF (rotF l y.1 m e) a y.1 mid = rotF l y.1 m e := by
                    by_cases q : y.1 = a
                    · exact (congrArg (fun t => symF (rotF l y.1 m e) a t mid) q).trans (symF_id1 (by omega) (by rw [hrl]; omega))
                    · exact (congrArg (fun t => symF (rotF l y.1 m e) a y.1 t) (show mid = y.1 by omega)).trans (symF_id2 (by omega) (by rw [hrl]; omega))
                  refine RO.nil ?_
                  refine Runs.condF rfl ?_
                  refine Runs.skip ?_
                  refine thenQ_normal ?_
                  refine Runs.has [(0, .own 0 _), (3, .d (.int _ _)), (4, .fn 19 _), (18, .d (.int _ _)), (24, .d (.int _ _))] ⟨rfl, rfl, rfl, rfl, rfl, trivial⟩ ?_
                  refine Runs.rseq ?_
                  refine RO.opv (v' := .d (.int _ _)) (opv_move rfl) rfl ?_
                  refine RO.opv (v' := .d (.int _ _)) (opv_move rfl) rfl ?_
                  refine RO.opv (v' := .d (.bool _)) (opv_bin rfl rfl rfl) rfl ?_
                  refine RO.opc (opv_move rfl) (fun h46 => ?_) (fun h46 => ?_)
                  · try simp only [Z.a, Z.b, Z.c, Z.d, Z.e, Z.f, Z.g, Z.h, Z.i, Z.j, Z.k, Z.l, Z.m] at h46
                    skip
                    refine RO.opgv (v' := .d (.int _ _)) rfl (opv_move rfl) rfl ?_
                    refine RO.opgv (v' := .d (.int _ _)) rfl (opv_move rfl) rfl ?_
                    refine RO.opgv (v' := .d (.bool _)) rfl (opv_bin rfl rfl rfl) rfl ?_
                    refine RO.opc (opv_pick rfl rfl) (fun h47 => ?_) (fun h47 => ?_)
                    · try simp only [Z.a, Z.b, Z.c, Z.d, Z.e, Z.f, Z.g, Z.h, Z.i, Z.j, Z.k, Z.l, Z.m] at h47
                      skip
                      refine RO.nil ?_
                      refine Runs.condT rfl ?_
                      refine Runs.has [(0, .own 0 _), (3, .d (.int _ _)), (4, .fn 19 _), (18, .d (.int _ _)), (24, .d (.int _ _))] ⟨rfl, rfl, rfl, rfl, rfl, trivial⟩ ?_
                      refine Runs.region ?_
                      refine RO.opv (v' := .own 0 _) (opv_move rfl) rfl ?_
                      refine RO.opv (v' := .d (.int _ _)) (opv_move rfl) rfl ?_
                      refine RO.opv (v' := .d (.int _ _)) (opv_move rfl) rfl ?_
                      refine RO.opv (v' := .d (.int _ _)) (opv_move rfl) rfl ?_
                      refine RO.opv (v' := .fn 19 _) (opv_move rfl) rfl ?_
                      refine RO.opn (O' := [_]) (opv_callP 1 (ih _ v mid e b (by omega) (by omega) (by omega) (by first | omega | (rw [hrl]; omega) | (rw [hsl, hrl]; omega) | (rw [hR] at hsl; rw [hsl]; omega)) (by first | omega | (rw [hrl]; omega) | (rw [hsl, hrl]; omega) | (rw [hR] at hsl; rw [hsl]; omega)) (by first | exact sA.2 | (rw [k4]; exact sA.2) | (rw [hR] at k4; rw [k4]; exact sA.2) | (rw [hS1] at k4; rw [k4]; exact sA.2) | (rw [hS1, hR] at k4; rw [k4]; exact sA.2)) (by first | exact sB.2 | (rw [k5]; exact sB.2) | (rw [hR] at k5; rw [k5]; exact sB.2) | (rw [hS1] at k5; rw [k5]; exact sB.2) | (rw [hS1, hR] at k5; rw [k5]; exact sB.2)) (by first | exact hbk | exact hrb | exact hsb | (rw [hR] at hsb; exact hsb))) rfl rfl (Nat.le_of_ble_eq_true rfl) rfl (AV.bds_of_B _ rfl)) rfl rfl ?_
                      refine RO.nil ?_
                      refine EndQ.none (.inl rfl) rfl 1 (by exact Nat.le_refl _) (by simp) ⟨rfl, ?_⟩
                      · first | (rw [hk, sym_one1 y1 (by omega) g3 hgX (all_seg y4) (all_seg (by rw [hij]; exact y5))] <;> rfl) | (rw [← hk, sym_one2 y1 (by omega) hgX (all_seg y4) (all_seg (by rw [hij]; exact y5))] <;> rfl) | (rw [← k1] <;> rfl) | (rw [← k1, hS2] <;> rfl) | (rw [← k1, hS2, hS1] <;> rfl) | (rw [← k1, hS2, hS1, hR] <;> rfl) | (rw [← k1, hS1] <;> rfl) | (rw [← k1, hS1, hR] <;> rfl) | (rw [← k1, hS2, hR] <;> rfl) | (rw [← k1, hR] <;> rfl)
                    · try simp only [Z.a, Z.b, Z.c, Z.d, Z.e, Z.f, Z.g, Z.h, Z.i, Z.j, Z.k, Z.l, Z.m] at h47
                      have hS2 : symF (symF (rotF l y.1 m e) a y.1 mid) mid e b = symF (rotF l y.1 m e) a y.1 mid := by
                        by_cases q : e = mid
                        · exact (congrArg (fun t => symF (symF (rotF l y.1 m e) a y.1 mid) mid t b) q).trans (symF_id1 (by omega) (by rw [hsl, hrl]; omega))
                        · exact (congrArg (fun t => symF (symF (rotF l y.1 m e) a y.1 mid) mid e t) (show b = e by omega)).trans (symF_id2 (by omega) (by rw [hsl, hrl]; omega))
                      refine RO.nil ?_
                      refine Runs.condF rfl ?_
                      refine Runs.skip ?_
                      refine EndQ.none (.inl rfl) rfl 1 (by exact Nat.le_refl _) (by simp) ⟨rfl, ?_⟩
                      · first | (rw [hk, sym_one1 y1 (by omega) g3 hgX (all_seg y4) (all_seg (by rw [hij]; exact y5))] <;> rfl) | (rw [← hk, sym_one2 y1 (by omega) hgX (all_seg y4) (all_seg (by rw [hij]; exact y5))] <;> rfl) | (rw [← k1] <;> rfl) | (rw [← k1, hS2] <;> rfl) | (rw [← k1, hS2, hS1] <;> rfl) | (rw [← k1, hS2, hS1, hR] <;> rfl) | (rw [← k1, hS1] <;> rfl) | (rw [← k1, hS1, hR] <;> rfl) | (rw [← k1, hS2, hR] <;> rfl) | (rw [← k1, hR] <;> rfl)
                  · try simp only [Z.a, Z.b, Z.c, Z.d, Z.e, Z.f, Z.g, Z.h, Z.i, Z.j, Z.k, Z.l, Z.m] at h46
                    have hS2 : symF (symF (rotF l y.1 m e) a y.1 mid) mid e b = symF (rotF l y.1 m e) a y.1 mid := by
                      by_cases q : e = mid
                      · exact (congrArg (fun t => symF (symF (rotF l y.1 m e) a y.1 mid) mid t b) q).trans (symF_id1 (by omega) (by rw [hsl, hrl]; omega))
                      · exact (congrArg (fun t => symF (symF (rotF l y.1 m e) a y.1 mid) mid e t) (show b = e by omega)).trans (symF_id2 (by omega) (by rw [hsl, hrl]; omega))
                    refine RO.off rfl ?_
                    refine RO.off rfl ?_
                    refine RO.off rfl ?_
                    refine RO.opv (v' := .d (.bool false)) (opv_pick rfl rfl) rfl ?_
                    refine RO.nil ?_
                    refine Runs.condF rfl ?_
                    refine Runs.skip ?_
                    refine EndQ.none (.inl rfl) rfl 1 (by exact Nat.le_refl _) (by simp) ⟨rfl, ?_⟩
                    · first | (rw [hk, sym_one1 y1 (by omega) g3 hgX (all_seg y4) (all_seg (by rw [hij]; exact y5))] <;> rfl) | (rw [← hk, sym_one2 y1 (by omega) hgX (all_seg y4) (all_seg (by rw [hij]; exact y5))] <;> rfl) | (rw [← k1] <;> rfl) | (rw [← k1, hS2] <;> rfl) | (rw [← k1, hS2, hS1] <;> rfl) | (rw [← k1, hS2, hS1, hR] <;> rfl) | (rw [← k1, hS1] <;> rfl) | (rw [← k1, hS1, hR] <;> rfl) | (rw [← k1, hS2, hR] <;> rfl) | (rw [← k1, hR] <;> rfl)
              · try simp only [Z.a, Z.b, Z.c, Z.d, Z.e, Z.f, Z.g, Z.h, Z.i, Z.j, Z.k, Z.l, Z.m] at h42
                have hS1 : symF (rotF l y.1 m e) a y.1 mid = rotF l y.1 m e := by
                  by_cases q : y.1 = a
                  · exact (congrArg (fun t => symF (rotF l y.1 m e) a t mid) q).trans (symF_id1 (by omega) (by rw [hrl]; omega))
                  · exact (congrArg (fun t => symF (rotF l y.1 m e) a y.1 t) (show mid = y.1 by omega)).trans (symF_id2 (by omega) (by rw [hrl]; omega))
                refine RO.off rfl ?_
                refine RO.off rfl ?_
                refine RO.off rfl ?_
                refine RO.opv (v' := .d (.bool false)) (opv_pick rfl rfl) rfl ?_
                refine RO.nil ?_
                refine Runs.condF rfl ?_
                refine Runs.skip ?_
                refine thenQ_normal ?_
                refine Runs.has [(0, .own 0 _), (3, .d (.int _ _)), (4, .fn 19 _), (18, .d (.int _ _)), (24, .d (.int _ _))] ⟨rfl, rfl, rfl, rfl, rfl, trivial⟩ ?_
                refine Runs.rseq ?_
                refine RO.opv (v' := .d (.int _ _)) (opv_move rfl) rfl ?_
                refine RO.opv (v' := .d (.int _ _)) (opv_move rfl) rfl ?_
                refine RO.opv (v' := .d (.bool _)) (opv_bin rfl rfl rfl) rfl ?_
                refine RO.opc (opv_move rfl) (fun h48 => ?_) (fun h48 => ?_)
                · try simp only [Z.a, Z.b, Z.c, Z.d, Z.e, Z.f, Z.g, Z.h, Z.i, Z.j, Z.k, Z.l, Z.m] at h48
                  skip
                  refine RO.opgv (v' := .d (.int _ _)) rfl (opv_move rfl) rfl ?_
                  refine RO.opgv (v' := .d (.int _ _)) rfl (opv_move rfl) rfl ?_
                  refine RO.opgv (v' := .d (.bool _)) rfl (opv_bin rfl rfl rfl) rfl ?_
                  refine RO.opc (opv_pick rfl rfl) (fun h49 => ?_) (fun h49 => ?_)
                  · try simp only [Z.a, Z.b, Z.c, Z.d, Z.e, Z.f, Z.g, Z.h, Z.i, Z.j, Z.k, Z.l, Z.m] at h49
                    skip
                    refine RO.nil ?_
                    refine Runs.condT rfl ?_
                    refine Runs.has [(0, .own 0 _), (3, .d (.int _ _)), (4, .fn 19 _), (18, .d (.int _ _)), (24, .d (.int _ _))] ⟨rfl, rfl, rfl, rfl, rfl, trivial⟩ ?_
                    refine Runs.region ?_
                    refine RO.opv (v' := .own 0 _) (opv_move rfl) rfl ?_
                    refine RO.opv (v' := .d (.int _ _)) (opv_move rfl) rfl ?_
                    refine RO.opv (v' := .d (.int _ _)) (opv_move rfl) rfl ?_
                    refine RO.opv (v' := .d (.int _ _)) (opv_move rfl) rfl ?_
                    refine RO.opv (v' := .fn 19 _) (opv_move rfl) rfl ?_
                    refine RO.opn (O' := [_]) (opv_callP 1 (ih _ v mid e b (by omega) (by omega) (by omega) (by first | omega | (rw [hrl]; omega) | (rw [hsl, hrl]; omega) | (rw [hR] at hsl; rw [hsl]; omega)) (by first | omega | (rw [hrl]; omega) | (rw [hsl, hrl]; omega) | (rw [hR] at hsl; rw [hsl]; omega)) (by first | exact sA.2 | (rw [k4]; exact sA.2) | (rw [hR] at k4; rw [k4]; exact sA.2) | (rw [hS1] at k4; rw [k4]; exact sA.2) | (rw [hS1, hR] at k4; rw [k4]; exact sA.2)) (by first | exact sB.2 | (rw [k5]; exact sB.2) | (rw [hR] at k5; rw [k5]; exact sB.2) | (rw [hS1] at k5; rw [k5]; exact sB.2) | (rw [hS1, hR] at k5; rw [k5]; exact sB.2)) (by first | exact hbk | exact hrb | exact hsb | (rw [hR] at hsb; exact hsb))) rfl rfl (Nat.le_of_ble_eq_true rfl) rfl (AV.bds_of_B _ rfl)) rfl rfl ?_
                    refine RO.nil ?_
                    refine EndQ.none (.inl rfl) rfl 1 (by exact Nat.le_refl _) (by simp) ⟨rfl, ?_⟩
                    · first | (rw [hk, sym_one1 y1 (by omega) g3 hgX (all_seg y4) (all_seg (by rw [hij]; exact y5))] <;> rfl) | (rw [← hk, sym_one2 y1 (by omega) hgX (all_seg y4) (all_seg (by rw [hij]; exact y5))] <;> rfl) | (rw [← k1] <;> rfl) | (rw [← k1, hS2] <;> rfl) | (rw [← k1, hS2, hS1] <;> rfl) | (rw [← k1, hS2, hS1, hR] <;> rfl) | (rw [← k1, hS1] <;> rfl) | (rw [← k1, hS1, hR] <;> rfl) | (rw [← k1, hS2, hR] <;> rfl) | (rw [← k1, hR] <;> rfl)
                  · try simp only [Z.a, Z.b, Z.c, Z.d, Z.e, Z.f, Z.g, Z.h, Z.i, Z.j, Z.k, Z.l, Z.m] at h49
                    have hS2 : symF (symF (rotF l y.1 m e) a y.1 mid) mid e b = symF (rotF l y.1 m e) a y.1 mid := by
                      by_cases q : e = mid
                      · exact (congrArg (fun t => symF (symF (rotF l y.1 m e) a y.1 mid) mid t b) q).trans (symF_id1 (by omega) (by rw [hsl, hrl]; omega))
                      · exact (congrArg (fun t => symF (symF (rotF l y.1 m e) a y.1 mid) mid e t) (show b = e by omega)).trans (symF_id2 (by omega) (by rw [hsl, hrl]; omega))
                    refine RO.nil ?_
                    refine Runs.condF rfl ?_
                    refine Runs.skip ?_
                    refine EndQ.none (.inl rfl) rfl 1 (by exact Nat.le_refl _) (by simp) ⟨rfl, ?_⟩
                    · first | (rw [hk, sym_one1 y1 (by omega) g3 hgX (all_seg y4) (all_seg (by rw [hij]; exact y5))] <;> rfl) | (rw [← hk, sym_one2 y1 (by omega) hgX (all_seg y4) (all_seg (by rw [hij]; exact y5))] <;> rfl) | (rw [← k1] <;> rfl) | (rw [← k1, hS2] <;> rfl) | (rw [← k1, hS2, hS1] <;> rfl) | (rw [← k1, hS2, hS1, hR] <;> rfl) | (rw [← k1, hS1] <;> rfl) | (rw [← k1, hS1, hR] <;> rfl) | (rw [← k1, hS2, hR] <;> rfl) | (rw [← k1, hR] <;> rfl)
                · try simp only [Z.a, Z.b, Z.c, Z.d, Z.e, Z.f, Z.g, Z.h, Z.i, Z.j, Z.k, Z.l, Z.m] at h48
                  have hS2 : symF (symF (rotF l y.1 m e) a y.1 mid) mid e b = symF (rotF l y.1 m e) a y.1 mid := by
                    by_cases q : e = mid
                    · exact (congrArg (fun t => symF (symF (rotF l y.1 m e) a y.1 mid) mid t b) q).trans (symF_id1 (by omega) (by rw [hsl, hrl]; omega))
                    · exact (congrArg (fun t => symF (symF (rotF l y.1 m e) a y.1 mid) mid e t) (show b = e by omega)).trans (symF_id2 (by omega) (by rw [hsl, hrl]; omega))
                  refine RO.off rfl ?_
                  refine RO.off rfl ?_
                  refine RO.off rfl ?_
                  refine RO.opv (v' := .d (.bool false)) (opv_pick rfl rfl) rfl ?_
                  refine RO.nil ?_
                  refine Runs.condF rfl ?_
                  refine Runs.skip ?_
                  refine EndQ.none (.inl rfl) rfl 1 (by exact Nat.le_refl _) (by simp) ⟨rfl, ?_⟩
                  · first | (rw [hk, sym_one1 y1 (by omega) g3 hgX (all_seg y4) (all_seg (by rw [hij]; exact y5))] <;> rfl) | (rw [← hk, sym_one2 y1 (by omega) hgX (all_seg y4) (all_seg (by rw [hij]; exact y5))] <;> rfl) | (rw [← k1] <;> rfl) | (rw [← k1, hS2] <;> rfl) | (rw [← k1, hS2, hS1] <;> rfl) | (rw [← k1, hS2, hS1, hR] <;> rfl) | (rw [← k1, hS1] <;> rfl) | (rw [← k1, hS1, hR] <;> rfl) | (rw [← k1, hS2, hR] <;> rfl) | (rw [← k1, hR] <;> rfl)
            · try simp only [Z.a, Z.b, Z.c, Z.d, Z.e, Z.f, Z.g, Z.h, Z.i, Z.j, Z.k, Z.l, Z.m] at h41
              have hR : rotF l y.1 m e = l := by
                by_cases q : y.1 = m
                · exact (congrArg (fun t => rotF l t m e) q).trans (rotF_id1 (by omega) (by omega))
                · exact (congrArg (fun t => rotF l y.1 m t) (show e = m by omega)).trans (rotF_id2 (by omega) (by omega))
              refine RO.nil ?_
              refine Runs.condF rfl ?_
              refine Runs.skip ?_
              refine thenQ_normal ?_
              refine Runs.has [(0, .own 0 _), (1, .d (.int _ _)), (3, .d (.int _ _)), (4, .fn 19 _), (18, .d (.int _ _)), (20, .d (.int _ _)), (24, .d (.int _ _))] ⟨rfl, rfl, rfl, rfl, rfl, rfl, rfl, trivial⟩ ?_
              refine Runs.seq ?_
              refine Runs.rseq ?_
              refine RO.opv (v' := .d (.int _ _)) (opv_move rfl) rfl ?_
              refine RO.opv (v' := .d (.int _ _)) (opv_move rfl) rfl ?_
              refine RO.opv (v' := .d (.bool _)) (opv_bin rfl rfl rfl) rfl ?_
              refine RO.opc (opv_move rfl) (fun h50 => ?_) (fun h50 => ?_)
              · try simp only [Z.a, Z.b, Z.c, Z.d, Z.e, Z.f, Z.g, Z.h, Z.i, Z.j, Z.k, Z.l, Z.m] at h50
                skip
                refine RO.opgv (v' := .d (.int _ _)) rfl (opv_move rfl) rfl ?_
                refine RO.opgv (v' := .d (.int _ _)) rfl (opv_move rfl) rfl ?_
                refine RO.opgv (v' := .d (.bool _)) rfl (opv_bin rfl rfl rfl) rfl ?_
                refine RO.opc (opv_pick rfl rfl) (fun h51 => ?_) (fun h51 => ?_)
                · try simp only [Z.a, Z.b, Z.c, Z.d, Z.e, Z.f, Z.g, Z.h, Z.i, Z.j, Z.k, Z.l, Z.m] at h51
                  skip
                  refine RO.nil ?_
                  refine Runs.condT rfl ?_
                  refine Runs.has [(0, .own 0 _), (1, .d (.int _ _)), (3, .d (.int _ _)), (4, .fn 19 _), (18, .d (.int _ _)), (20, .d (.int _ _)), (24, .d (.int _ _))] ⟨rfl, rfl, rfl, rfl, rfl, rfl, rfl, trivial⟩ ?_
                  refine Runs.region ?_
                  refine RO.opv (v' := .own 0 _) (opv_move rfl) rfl ?_
                  refine RO.opv (v' := .d (.int _ _)) (opv_move rfl) rfl ?_
                  refine RO.opv (v' := .d (.int _ _)) (opv_move rfl) rfl ?_
                  refine RO.opv (v' := .d (.int _ _)) (opv_move rfl) rfl ?_
                  refine RO.opv (v' := .fn 19 _) (opv_move rfl) rfl ?_
                  refine RO.opn (O' := [_]) (opv_callP 1 (ih _ v a y.1 mid (by omega) (by omega) (by omega) (by first | omega | (rw [hrl]; omega) | (rw [hsl, hrl]; omega) | (rw [hR] at hsl; rw [hsl]; omega)) (by first | omega | (rw [hrl]; omega) | (rw [hsl, hrl]; omega) | (rw [hR] at hsl; rw [hsl]; omega)) (by first | exact sA.1 | (rw [k2]; exact sA.1) | (rw [hR] at k2; rw [k2]; exact sA.1) | (rw [hS1] at k2; rw [k2]; exact sA.1) | (rw [hS1, hR] at k2; rw [k2]; exact sA.1)) (by first | exact sB.1 | (rw [k3]; exact sB.1) | (rw [hR] at k3; rw [k3]; exact sB.1) | (rw [hS1] at k3; rw [k3]; exact sB.1) | (rw [hS1, hR] at k3; rw [k3]; exact sB.1)) (by first | exact hbk | exact hrb | exact hsb | (rw [hR] at hsb; exact hsb))) rfl rfl (Nat.le_of_ble_eq_true rfl) rfl (AV.bds_of_B _ rfl)) rfl rfl ?_
                  refine RO.nil ?_
                  refine thenQ_normal ?_
                  refine Runs.has [(0, .own 0 _), (3, .d (.int _ _)), (4, .fn 19 _), (18, .d (.int _ _)), (24, .d (.int _ _))] ⟨rfl, rfl, rfl, rfl, rfl, trivial⟩ ?_
                  refine Runs.rseq ?_
                  refine RO.opv (v' := .d (.int _ _)) (opv_move rfl) rfl ?_
                  refine RO.opv (v' := .d (.int _ _)) (opv_move rfl) rfl ?_
                  refine RO.opv (v' := .d (.bool _)) (opv_bin rfl rfl rfl) rfl ?_
                  refine RO.opc (opv_move rfl) (fun h52 => ?_) (fun h52 => ?_)
                  · try simp only [Z.a, Z.b, Z.c, Z.d, Z.e, Z.f, Z.g, Z.h, Z.i, Z.j, Z.k, Z.l, Z.m] at h52
                    skip
                    refine RO.opgv (v' := .d (.int _ _)) rfl (opv_move rfl) rfl ?_
                    refine RO.opgv (v' := .d (.int _ _)) rfl (opv_move rfl) rfl ?_
                    refine RO.opgv (v' := .d (.bool _)) rfl (opv_bin rfl rfl rfl) rfl ?_
                    refine RO.opc (opv_pick rfl rfl) (fun h53 => ?_) (fun h53 => ?_)
                    · try simp only [Z.a, Z.b, Z.c, Z.d, Z.e, Z.f, Z.g, Z.h, Z.i, Z.j, Z.k, Z.l, Z.m] at h53
                      skip
                      refine RO.nil ?_
                      refine Runs.condT rfl ?_
                      refine Runs.has [(0, .own 0 _), (3, .d (.int _ _)), (4, .fn 19 _), (18, .d (.int _ _)), (24, .d (.int _ _))] ⟨rfl, rfl, rfl, rfl, rfl, trivial⟩ ?_
                      refine Runs.region ?_
                      refine RO.opv (v' := .own 0 _) (opv_move rfl) rfl ?_
                      refine RO.opv (v' := .d (.int _ _)) (opv_move rfl) rfl ?_
                      refine RO.opv (v' := .d (.int _ _)) (opv_move rfl) rfl ?_
                      refine RO.opv (v' := .d (.int _ _)) (opv_move rfl) rfl ?_
                      refine RO.opv (v' := .fn 19 _) (opv_move rfl) rfl ?_
                      refine RO.opn (O' := [_]) (opv_callP 1 (ih _ v mid e b (by omega) (by omega) (by omega) (by first | omega | (rw [hrl]; omega) | (rw [hsl, hrl]; omega) | (rw [hR] at hsl; rw [hsl]; omega)) (by first | omega | (rw [hrl]; omega) | (rw [hsl, hrl]; omega) | (rw [hR] at hsl; rw [hsl]; omega)) (by first | exact sA.2 | (rw [k4]; exact sA.2) | (rw [hR] at k4; rw [k4]; exact sA.2) | (rw [hS1] at k4; rw [k4]; exact sA.2) | (rw [hS1, hR] at k4; rw [k4]; exact sA.2)) (by first | exact sB.2 | (rw [k5]; exact sB.2) | (rw [hR] at k5; rw [k5]; exact sB.2) | (rw [hS1] at k5; rw [k5]; exact sB.2) | (rw [hS1, hR] at k5; rw [k5]; exact sB.2)) (by first | exact hbk | exact hrb | exact hsb | (rw [hR] at hsb; exact hsb))) rfl rfl (Nat.le_of_ble_eq_true rfl) rfl (AV.bds_of_B _ rfl)) rfl rfl ?_
                      refine RO.nil ?_
                      refine EndQ.none (.inl rfl) rfl 1 (by exact Nat.le_refl _) (by simp) ⟨rfl, ?_⟩
                      · first | (rw [hk, sym_one1 y1 (by omega) g3 hgX (all_seg y4) (all_seg (by rw [hij]; exact y5))] <;> rfl) | (rw [← hk, sym_one2 y1 (by omega) hgX (all_seg y4) (all_seg (by rw [hij]; exact y5))] <;> rfl) | (rw [← k1] <;> rfl) | (rw [← k1, hS2] <;> rfl) | (rw [← k1, hS2, hS1] <;> rfl) | (rw [← k1, hS2, hS1, hR] <;> rfl) | (rw [← k1, hS1] <;> rfl) | (rw [← k1, hS1, hR] <;> rfl) | (rw [← k1, hS2, hR] <;> rfl) | (rw [← k1, hR] <;> rfl)
                    · try simp only [Z.a, Z.b, Z.c, Z.d, Z.e, Z.f, Z.g, Z.h, Z.i, Z.j, Z.k, Z.l, Z.m] at h53
                      have hS2 : symF (symF (rotF l y.1 m e) a y.1 mid) mid e b = symF (rotF l y.1 m e) a y.1 mid := by
                        by_cases q : e = mid
                        · exact (congrArg (fun t => symF (symF (rotF l y.1 m e) a y.1 mid) mid t b) q).trans (symF_id1 (by omega) (by rw [hsl, hrl]; omega))
                        · exact (congrArg (fun t => symF (symF (rotF l y.1 m e) a y.1 mid) mid e t) (show b = e by omega)).trans (symF_id2 (by omega) (by rw [hsl, hrl]; omega))
                      refine RO.nil ?_
                      refine Runs.condF rfl ?_
                      refine Runs.skip ?_
                      refine EndQ.none (.inl rfl) rfl 1 (by exact Nat.le_refl _) (by simp) ⟨rfl, ?_⟩
                      · first | (rw [hk, sym_one1 y1 (by omega) g3 hgX (all_seg y4) (all_seg (by rw [hij]; exact y5))] <;> rfl) | (rw [← hk, sym_one2 y1 (by omega) hgX (all_seg y4) (all_seg (by rw [hij]; exact y5))] <;> rfl) | (rw [← k1] <;> rfl) | (rw [← k1, hS2] <;> rfl) | (rw [← k1, hS2, hS1] <;> rfl) | (rw [← k1, hS2, hS1, hR] <;> rfl) | (rw [← k1, hS1] <;> rfl) | (rw [← k1, hS1, hR] <;> rfl) | (rw [← k1, hS2, hR] <;> rfl) | (rw [← k1, hR] <;> rfl)
                  · try simp only [Z.a, Z.b, Z.c, Z.d, Z.e, Z.f, Z.g, Z.h, Z.i, Z.j, Z.k, Z.l, Z.m] at h52
                    have hS2 : symF (symF (rotF l y.1 m e) a y.1 mid) mid e b = symF (rotF l y.1 m e) a y.1 mid := by
                      by_cases q : e = mid
                      · exact (congrArg (fun t => symF (symF (rotF l y.1 m e) a y.1 mid) mid t b) q).trans (symF_id1 (by omega) (by rw [hsl, hrl]; omega))
                      · exact (congrArg (fun t => symF (symF (rotF l y.1 m e) a y.1 mid) mid e t) (show b = e by omega)).trans (symF_id2 (by omega) (by rw [hsl, hrl]; omega))
                    refine RO.off rfl ?_
                    refine RO.off rfl ?_
                    refine RO.off rfl ?_
                    refine RO.opv (v' := .d (.bool false)) (opv_pick rfl rfl) rfl ?_
                    refine RO.nil ?_
                    refine Runs.condF rfl ?_
                    refine Runs.skip ?_
                    refine EndQ.none (.inl rfl) rfl 1 (by exact Nat.le_refl _) (by simp) ⟨rfl, ?_⟩
                    · first | (rw [hk, sym_one1 y1 (by omega) g3 hgX (all_seg y4) (all_seg (by rw [hij]; exact y5))] <;> rfl) | (rw [← hk, sym_one2 y1 (by omega) hgX (all_seg y4) (all_seg (by rw [hij]; exact y5))] <;> rfl) | (rw [← k1] <;> rfl) | (rw [← k1, hS2] <;> rfl) | (rw [← k1, hS2, hS1] <;> rfl) | (rw [← k1, hS2, hS1, hR] <;> rfl) | (rw [← k1, hS1] <;> rfl) | (rw [← k1, hS1, hR] <;> rfl) | (rw [← k1, hS2, hR] <;> rfl) | (rw [← k1, hR] <;> rfl)
                · try simp only [Z.a, Z.b, Z.c, Z.d, Z.e, Z.f, Z.g, Z.h, Z.i, Z.j, Z.k, Z.l, Z.m] at h51
                  have hS1 : symF (rotF l y.1 m e) a y.1 mid = rotF l y.1 m e := by
                    by_cases q : y.1 = a
                    · exact (congrArg (fun t => symF (rotF l y.1 m e) a t mid) q).trans (symF_id1 (by omega) (by rw [hrl]; omega))
                    · exact (congrArg (fun t => symF (rotF l y.1 m e) a y.1 t) (show mid = y.1 by omega)).trans (symF_id2 (by omega) (by rw [hrl]; omega))
                  refine RO.nil ?_
                  refine Runs.condF rfl ?_
                  refine Runs.skip ?_
                  refine thenQ_normal ?_
                  refine Runs.has [(0, .own 0 _), (3, .d (.int _ _)), (4, .fn 19 _), (18, .d (.int _ _)), (24, .d (.int _ _))] ⟨rfl, rfl, rfl, rfl, rfl, trivial⟩ ?_
                  refine Runs.rseq ?_
                  refine RO.opv (v' := .d (.int _ _)) (opv_move rfl) rfl ?_
                  refine RO.opv (v' := .d (.int _ _)) (opv_move rfl) rfl ?_
                  refine RO.opv (v' := .d (.bool _)) (opv_bin rfl rfl rfl) rfl ?_
                  refine RO.opc (opv_move rfl) (fun h54 => ?_) (fun h54 => ?_)
                  · try simp only [Z.a, Z.b, Z.c, Z.d, Z.e, Z.f, Z.g, Z.h, Z.i, Z.j, Z.k, Z.l, Z.m] at h54
                    skip
                    refine RO.opgv (v' := .d (.int _ _)) rfl (opv_move rfl) rfl ?_
                    refine RO.opgv (v' := .d (.int _ _)) rfl (opv_move rfl) rfl ?_
                    refine RO.opgv (v' := .d (.bool _)) rfl (opv_bin rfl rfl rfl) rfl ?_
                    refine RO.opc (opv_pick rfl rfl) (fun h55 => ?_) (fun h55 => ?_)
                    · try simp only [Z.a, Z.b, Z.c, Z.d, Z.e, Z.f, Z.g, Z.h, Z.i, Z.j, Z.k, Z.l, Z.m] at h55
                      skip
                      refine RO.nil ?_
                      refine Runs.condT rfl ?_
                      refine Runs.has [(0, .own 0 _), (3, .d (.int _ _)), (4, .fn 19 _), (18, .d (.int _ _)), (24, .d (.int _ _))] ⟨rfl, rfl, rfl, rfl, rfl, trivial⟩ ?_
                      refine Runs.region ?_
                      refine RO.opv (v' := .own 0 _) (opv_move rfl) rfl ?_
                      refine RO.opv (v' := .d (.int _ _)) (opv_move rfl) rfl ?_
                      refine RO.opv (v' := .d (.int _ _)) (opv_move rfl) rfl ?_
                      refine RO.opv (v' := .d (.int _ _)) (opv_move rfl) rfl ?_
                      refine RO.opv (v' := .fn 19 _) (opv_move rfl) rfl ?_
                      refine RO.opn (O' := [_]) (opv_callP 1 (ih _ v mid e b (by omega) (by omega) (by omega) (by first | omega | (rw [hrl]; omega) | (rw [hsl, hrl]; omega) | (rw [hR] at hsl; rw [hsl]; omega)) (by first | omega | (rw [hrl]; omega) | (rw [hsl, hrl]; omega) | (rw [hR] at hsl; rw [hsl]; omega)) (by first | exact sA.2 | (rw [k4]; exact sA.2) | (rw [hR] at k4; rw [k4]; exact sA.2) | (rw [hS1] at k4; rw [k4]; exact sA.2) | (rw [hS1, hR] at k4; rw [k4]; exact sA.2)) (by first | exact sB.2 | (rw [k5]; exact sB.2) | (rw [hR] at k5; rw [k5]; exact sB.2) | (rw [hS1] at k5; rw [k5]; exact sB.2) | (rw [hS1, hR] at k5; rw [k5]; exact sB.2)) (by first | exact hbk | exact hrb | exact hsb | (rw [hR] at hsb; exact hsb))) rfl rfl (Nat.le_of_ble_eq_true rfl) rfl (AV.bds_of_B _ rfl)) rfl rfl ?_
                      refine RO.nil ?_
                      refine EndQ.none (.inl rfl) rfl 1 (by exact Nat.le_refl _) (by simp) ⟨rfl, ?_⟩
                      · first | (rw [hk, sym_one1 y1 (by omega) g3 hgX (all_seg y4) (all_seg (by rw [hij]; exact y5))] <;> rfl) | (rw [← hk, sym_one2 y1 (by omega) hgX (all_seg y4) (all_seg (by rw [hij]; exact y5))] <;> rfl) | (rw [← k1] <;> rfl) | (rw [← k1, hS2] <;> rfl) | (rw [← k1, hS2, hS1] <;> rfl) | (rw [← k1, hS2, hS1, hR] <;> rfl) | (rw [← k1, hS1] <;> rfl) | (rw [← k1, hS1, hR] <;> rfl) | (rw [← k1, hS2, hR] <;> rfl) | (rw [← k1, hR] <;> rfl)
                    · try simp only [Z.a, Z.b, Z.c, Z.d, Z.e, Z.f, Z.g, Z.h, Z.i, Z.j, Z.k, Z.l, Z.m] at h55
                      have hS2 : symF (symF (rotF l y.1 m e) a y.1 mid) mid e b = symF (rotF l y.1 m e) a y.1 mid := by
                        by_cases q : e = mid
                        · exact (congrArg (fun t => symF (symF (rotF l y.1 m e) a y.1 mid) mid t b) q).trans (symF_id1 (by omega) (by rw [hsl, hrl]; omega))
                        · exact (congrArg (fun t => symF (symF (rotF l y.1 m e) a y.1 mid) mid e t) (show b = e by omega)).trans (symF_id2 (by omega) (by rw [hsl, hrl]; omega))
                      refine RO.nil ?_
                      refine Runs.condF rfl ?_
                      refine Runs.skip ?_
                      refine EndQ.none (.inl rfl) rfl 1 (by exact Nat.le_refl _) (by simp) ⟨rfl, ?_⟩
                      · first | (rw [hk, sym_one1 y1 (by omega) g3 hgX (all_seg y4) (all_seg (by rw [hij]; exact y5))] <;> rfl) | (rw [← hk, sym_one2 y1 (by omega) hgX (all_seg y4) (all_seg (by rw [hij]; exact y5))] <;> rfl) | (rw [← k1] <;> rfl) | (rw [← k1, hS2] <;> rfl) | (rw [← k1, hS2, hS1] <;> rfl) | (rw [← k1, hS2, hS1, hR] <;> rfl) | (rw [← k1, hS1] <;> rfl) | (rw [← k1, hS1, hR] <;> rfl) | (rw [← k1, hS2, hR] <;> rfl) | (rw [← k1, hR] <;> rfl)
                  · try simp only [Z.a, Z.b, Z.c, Z.d, Z.e, Z.f, Z.g, Z.h, Z.i, Z.j, Z.k, Z.l, Z.m] at h54
                    have hS2 : symF (symF (rotF l y.1 m e) a y.1 mid) mid e b = symF (rotF l y.1 m e) a y.1 mid := by
                      by_cases q : e = mid
                      · exact (congrArg (fun t => symF (symF (rotF l y.1 m e) a y.1 mid) mid t b) q).trans (symF_id1 (by omega) (by rw [hsl, hrl]; omega))
                      · exact (congrArg (fun t => symF (symF (rotF l y.1 m e) a y.1 mid) mid e t) (show b = e by omega)).trans (symF_id2 (by omega) (by rw [hsl, hrl]; omega))
                    refine RO.off rfl ?_
                    refine RO.off rfl ?_
                    refine RO.off rfl ?_
                    refine RO.opv (v' := .d (.bool false)) (opv_pick rfl rfl) rfl ?_
                    refine RO.nil ?_
                    refine Runs.condF rfl ?_
                    refine Runs.skip ?_
                    refine EndQ.none (.inl rfl) rfl 1 (by exact Nat.le_refl _) (by simp) ⟨rfl, ?_⟩
                    · first | (rw [hk, sym_one1 y1 (by omega) g3 hgX (all_seg y4) (all_seg (by rw [hij]; exact y5))] <;> rfl) | (rw [← hk, sym_one2 y1 (by omega) hgX (all_seg y4) (all_seg (by rw [hij]; exact y5))] <;> rfl) | (rw [← k1] <;> rfl) | (rw [← k1, hS2] <;> rfl) | (rw [← k1, hS2, hS1] <;> rfl) | (rw [← k1, hS2, hS1, hR] <;> rfl) | (rw [← k1, hS1] <;> rfl) | (rw [← k1, hS1, hR] <;> rfl) | (rw [← k1, hS2, hR] <;> rfl) | (rw [← k1, hR] <;> rfl)
              · try simp only [Z.a, Z.b, Z.c, Z.d, Z.e, Z.f, Z.g, Z.h, Z.i, Z.j, Z.k, Z.l, Z.m] at h50
                have hS1 : symF (rotF l y.1 m e) a y.1 mid = rotF l y.1 m e := by
                  by_cases q : y.1 = a
                  · exact (congrArg (fun t => symF (rotF l y.1 m e) a t mid) q).trans (symF_id1 (by omega) (by rw [hrl]; omega))
                  · exact (congrArg (fun t => symF (rotF l y.1 m e) a y.1 t) (show mid = y.1 by omega)).trans (symF_id2 (by omega) (by rw [hrl]; omega))
                refine RO.off rfl ?_
                refine RO.off rfl ?_
                refine RO.off rfl ?_
                refine RO.opv (v' := .d (.bool false)) (opv_pick rfl rfl) rfl ?_
                refine RO.nil ?_
                refine Runs.condF rfl ?_
                refine Runs.skip ?_
                refine thenQ_normal ?_
                refine Runs.has [(0, .own 0 _), (3, .d (.int _ _)), (4, .fn 19 _), (18, .d (.int _ _)), (24, .d (.int _ _))] ⟨rfl, rfl, rfl, rfl, rfl, trivial⟩ ?_
                refine Runs.rseq ?_
                refine RO.opv (v' := .d (.int _ _)) (opv_move rfl) rfl ?_
                refine RO.opv (v' := .d (.int _ _)) (opv_move rfl) rfl ?_
                refine RO.opv (v' := .d (.bool _)) (opv_bin rfl rfl rfl) rfl ?_
                refine RO.opc (opv_move rfl) (fun h56 => ?_) (fun h56 => ?_)
                · try simp only [Z.a, Z.b, Z.c, Z.d, Z.e, Z.f, Z.g, Z.h, Z.i, Z.j, Z.k, Z.l, Z.m] at h56
                  skip
                  refine RO.opgv (v' := .d (.int _ _)) rfl (opv_move rfl) rfl ?_
                  refine RO.opgv (v' := .d (.int _ _)) rfl (opv_move rfl) rfl ?_
                  refine RO.opgv (v' := .d (.bool _)) rfl (opv_bin rfl rfl rfl) rfl ?_
                  refine RO.opc (opv_pick rfl rfl) (fun h57 => ?_) (fun h57 => ?_)
                  · try simp only [Z.a, Z.b, Z.c, Z.d, Z.e, Z.f, Z.g, Z.h, Z.i, Z.j, Z.k, Z.l, Z.m] at h57
                    skip
                    refine RO.nil ?_
                    refine Runs.condT rfl ?_
                    refine Runs.has [(0, .own 0 _), (3, .d (.int _ _)), (4, .fn 19 _), (18, .d (.int _ _)), (24, .d (.int _ _))] ⟨rfl, rfl, rfl, rfl, rfl, trivial⟩ ?_
                    refine Runs.region ?_
                    refine RO.opv (v' := .own 0 _) (opv_move rfl) rfl ?_
                    refine RO.opv (v' := .d (.int _ _)) (opv_move rfl) rfl ?_
                    refine RO.opv (v' := .d (.int _ _)) (opv_move rfl) rfl ?_
                    refine RO.opv (v' := .d (.int _ _)) (opv_move rfl) rfl ?_
                    refine RO.opv (v' := .fn 19 _) (opv_move rfl) rfl ?_
                    refine RO.opn (O' := [_]) (opv_callP 1 (ih _ v mid e b (by omega) (by omega) (by omega) (by first | omega | (rw [hrl]; omega) | (rw [hsl, hrl]; omega) | (rw [hR] at hsl; rw [hsl]; omega)) (by first | omega | (rw [hrl]; omega) | (rw [hsl, hrl]; omega) | (rw [hR] at hsl; rw [hsl]; omega)) (by first | exact sA.2 | (rw [k4]; exact sA.2) | (rw [hR] at k4; rw [k4]; exact sA.2) | (rw [hS1] at k4; rw [k4]; exact sA.2) | (rw [hS1, hR] at k4; rw [k4]; exact sA.2)) (by first | exact sB.2 | (rw [k5]; exact sB.2) | (rw [hR] at k5; rw [k5]; exact sB.2) | (rw [hS1] at k5; rw [k5]; exact sB.2) | (rw [hS1, hR] at k5; rw [k5]; exact sB.2)) (by first | exact hbk | exact hrb | exact hsb | (rw [hR] at hsb; exact hsb))) rfl rfl (Nat.le_of_ble_eq_true rfl) rfl (AV.bds_of_B _ rfl)) rfl rfl ?_
                    refine RO.nil ?_
                    refine EndQ.none (.inl rfl) rfl 1 (by exact Nat.le_refl _) (by simp) ⟨rfl, ?_⟩
                    · first | (rw [hk, sym_one1 y1 (by omega) g3 hgX (all_seg y4) (all_seg (by rw [hij]; exact y5))] <;> rfl) | (rw [← hk, sym_one2 y1 (by omega) hgX (all_seg y4) (all_seg (by rw [hij]; exact y5))] <;> rfl) | (rw [← k1] <;> rfl) | (rw [← k1, hS2] <;> rfl) | (rw [← k1, hS2, hS1] <;> rfl) | (rw [← k1, hS2, hS1, hR] <;> rfl) | (rw [← k1, hS1] <;> rfl) | (rw [← k1, hS1, hR] <;> rfl) | (rw [← k1, hS2, hR] <;> rfl) | (rw [← k1, hR] <;> rfl)
                  · try simp only [Z.a, Z.b, Z.c, Z.d, Z.e, Z.f, Z.g, Z.h, Z.i, Z.j, Z.k, Z.l, Z.m] at h57
                    have hS2 : symF (symF (rotF l y.1 m e) a y.1 mid) mid e b = symF (rotF l y.1 m e) a y.1 mid := by
                      by_cases q : e = mid
                      · exact (congrArg (fun t => symF (symF (rotF l y.1 m e) a y.1 mid) mid t b) q).trans (symF_id1 (by omega) (by rw [hsl, hrl]; omega))
                      · exact (congrArg (fun t => symF (symF (rotF l y.1 m e) a y.1 mid) mid e t) (show b = e by omega)).trans (symF_id2 (by omega) (by rw [hsl, hrl]; omega))
                    refine RO.nil ?_
                    refine Runs.condF rfl ?_
                    refine Runs.skip ?_
                    refine EndQ.none (.inl rfl) rfl 1 (by exact Nat.le_refl _) (by simp) ⟨rfl, ?_⟩
                    · first | (rw [hk, sym_one1 y1 (by omega) g3 hgX (all_seg y4) (all_seg (by rw [hij]; exact y5))] <;> rfl) | (rw [← hk, sym_one2 y1 (by omega) hgX (all_seg y4) (all_seg (by rw [hij]; exact y5))] <;> rfl) | (rw [← k1] <;> rfl) | (rw [← k1, hS2] <;> rfl) | (rw [← k1, hS2, hS1] <;> rfl) | (rw [← k1, hS2, hS1, hR] <;> rfl) | (rw [← k1, hS1] <;> rfl) | (rw [← k1, hS1, hR] <;> rfl) | (rw [← k1, hS2, hR] <;> rfl) | (rw [← k1, hR] <;> rfl)
                · try simp only [Z.a, Z.b, Z.c, Z.d, Z.e, Z.f, Z.g, Z.h, Z.i, Z.j, Z.k, Z.l, Z.m] at h56
                  have hS2 : symF (symF (rotF l y.1 m e) a y.1 mid) mid e b = symF (rotF l y.1 m e) a y.1 mid := by
                    by_cases q : e = mid
                    · exact (congrArg (fun t => symF (symF (rotF l y.1 m e) a y.1 mid) mid t b) q).trans (symF_id1 (by omega) (by rw [hsl, hrl]; omega))
                    · exact (congrArg (fun t => symF (symF (rotF l y.1 m e) a y.1 mid) mid e t) (show b = e by omega)).trans (symF_id2 (by omega) (by rw [hsl, hrl]; omega))
                  refine RO.off rfl ?_
                  refine RO.off rfl ?_
                  refine RO.off rfl ?_
                  refine RO.opv (v' := .d (.bool false)) (opv_pick rfl rfl) rfl ?_
                  refine RO.nil ?_
                  refine Runs.condF rfl ?_
                  refine Runs.skip ?_
                  refine EndQ.none (.inl rfl) rfl 1 (by exact Nat.le_refl _) (by simp) ⟨rfl, ?_⟩
                  · first | (rw [hk, sym_one1 y1 (by omega) g3 hgX (all_seg y4) (all_seg (by rw [hij]; exact y5))] <;> rfl) | (rw [← hk, sym_one2 y1 (by omega) hgX (all_seg y4) (all_seg (by rw [hij]; exact y5))] <;> rfl) | (rw [← k1] <;> rfl) | (rw [← k1, hS2] <;> rfl) | (rw [← k1, hS2, hS1] <;> rfl) | (rw [← k1, hS2, hS1, hR] <;> rfl) | (rw [← k1, hS1] <;> rfl) | (rw [← k1, hS1, hR] <;> rfl) | (rw [← k1, hS2, hR] <;> rfl) | (rw [← k1, hR] <;> rfl)
          · try simp only [Z.a, Z.b, Z.c, Z.d, Z.e, Z.f, Z.g, Z.h, Z.i, Z.j, Z.k, Z.l, Z.m] at h40
            have hR : rotF l y.1 m e = l := by
              by_cases q : y.1 = m
              · exact (congrArg (fun t => rotF l t m e) q).trans (rotF_id1 (by omega) (by omega))
              · exact (congrArg (fun t => rotF l y.1 m t) (show e = m by omega)).trans (rotF_id2 (by omega) (by omega))
            refine RO.off rfl ?_
            refine RO.off rfl ?_
            refine RO.off rfl ?_
            refine RO.opv (v' := .d (.bool false)) (opv_pick rfl rfl) rfl ?_
            refine RO.nil ?_
            refine Runs.condF rfl ?_
            refine Runs.skip ?_
            refine thenQ_normal ?_
            refine Runs.has [(0, .own 0 _), (1, .d (.int _ _)), (3, .d (.int _ _)), (4, .fn 19 _), (18, .d (.int _ _)), (20, .d (.int _ _)), (24, .d (.int _ _))] ⟨rfl, rfl, rfl, rfl, rfl, rfl, rfl, trivial⟩ ?_
            refine Runs.seq ?_
            refine Runs.rseq ?_
            refine RO.opv (v' := .d (.int _ _)) (opv_move rfl) rfl ?_
            refine RO.opv (v' := .d (.int _ _)) (opv_move rfl) rfl ?_
            refine RO.opv (v' := .d (.bool _)) (opv_bin rfl rfl rfl) rfl ?_
            refine RO.opc (opv_move rfl) (fun h58 => ?_) (fun h58 => ?_)
            · try simp only [Z.a, Z.b, Z.c, Z.d, Z.e, Z.f, Z.g, Z.h, Z.i, Z.j, Z.k, Z.l, Z.m] at h58
              skip
              refine RO.opgv (v' := .d (.int _ _)) rfl (opv_move rfl) rfl ?_
              refine RO.opgv (v' := .d (.int _ _)) rfl (opv_move rfl) rfl ?_
              refine RO.opgv (v' := .d (.bool _)) rfl (opv_bin rfl rfl rfl) rfl ?_
              refine RO.opc (opv_pick rfl rfl) (fun h59 => ?_) (fun h59 => ?_)
              · try simp only [Z.a, Z.b, Z.c, Z.d, Z.e, Z.f, Z.g, Z.h, Z.i, Z.j, Z.k, Z.l, Z.m] at h59
                skip
                refine RO.nil ?_
                refine Runs.condT rfl ?_
                refine Runs.has [(0, .own 0 _), (1, .d (.int _ _)), (3, .d (.int _ _)), (4, .fn 19 _), (18, .d (.int _ _)), (20, .d (.int _ _)), (24, .d (.int _ _))] ⟨rfl, rfl, rfl, rfl, rfl, rfl, rfl, trivial⟩ ?_
                refine Runs.region ?_
                refine RO.opv (v' := .own 0 _) (opv_move rfl) rfl ?_
                refine RO.opv (v' := .d (.int _ _)) (opv_move rfl) rfl ?_
                refine RO.opv (v' := .d (.int _ _)) (opv_move rfl) rfl ?_
                refine RO.opv (v' := .d (.int _ _)) (opv_move rfl) rfl ?_
                refine RO.opv (v' := .fn 19 _) (opv_move rfl) rfl ?_
                refine RO.opn (O' := [_]) (opv_callP 1 (ih _ v a y.1 mid (by omega) (by omega) (by omega) (by first | omega | (rw [hrl]; omega) | (rw [hsl, hrl]; omega) | (rw [hR] at hsl; rw [hsl]; omega)) (by first | omega | (rw [hrl]; omega) | (rw [hsl, hrl]; omega) | (rw [hR] at hsl; rw [hsl]; omega)) (by first | exact sA.1 | (rw [k2]; exact sA.1) | (rw [hR] at k2; rw [k2]; exact sA.1) | (rw [hS1] at k2; rw [k2]; exact sA.1) | (rw [hS1, hR] at k2; rw [k2]; exact sA.1)) (by first | exact sB.1 | (rw [k3]; exact sB.1) | (rw [hR] at k3; rw [k3]; exact sB.1) | (rw [hS1] at k3; rw [k3]; exact sB.1) | (rw [hS1, hR] at k3; rw [k3]; exact sB.1)) (by first | exact hbk | exact hrb | exact hsb | (rw [hR] at hsb; exact hsb))) rfl rfl (Nat.le_of_ble_eq_true rfl) rfl (AV.bds_of_B _ rfl)) rfl rfl ?_
                refine RO.nil ?_
                refine thenQ_normal ?_
                refine Runs.has [(0, .own 0 _), (3, .d (.int _ _)), (4, .fn 19 _), (18, .d (.int _ _)), (24, .d (.int _ _))] ⟨rfl, rfl, rfl, rfl, rfl, trivial⟩ ?_
                refine Runs.rseq ?_
                refine RO.opv (v' := .d (.int _ _)) (opv_move rfl) rfl ?_
                refine RO.opv (v' := .d (.int _ _)) (opv_move rfl) rfl ?_
                refine RO.opv (v' := .d (.bool _)) (opv_bin rfl rfl rfl) rfl ?_
                refine RO.opc (opv_move rfl) (fun h60 => ?_) (fun h60 => ?_)
                · try simp only [Z.a, Z.b, Z.c, Z.d, Z.e, Z.f, Z.g, Z.h, Z.i, Z.j, Z.k, Z.l, Z.m] at h60
                  skip
                  refine RO.opgv (v' := .d (.int _ _)) rfl (opv_move rfl) rfl ?_
                  refine RO.opgv (v' := .d (.int _ _)) rfl (opv_move rfl) rfl ?_
                  refine RO.opgv (v' := .d (.bool _)) rfl (opv_bin rfl rfl rfl) rfl ?_
                  refine RO.opc (opv_pick rfl rfl) (fun h61 => ?_) (fun h61 => ?_)
                  · try simp only [Z.a, Z.b, Z.c, Z.d, Z.e, Z.f, Z.g, Z.h, Z.i, Z.j, Z.k, Z.l, Z.m] at h61
                    skip
                    refine RO.nil ?_
                    refine Runs.condT rfl ?_
                    refine Runs.has [(0, .own 0 _), (3, .d (.int _ _)), (4, .fn 19 _), (18, .d (.int _ _)), (24, .d (.int _ _))] ⟨rfl, rfl, rfl, rfl, rfl, trivial⟩ ?_
                    refine Runs.region ?_
                    refine RO.opv (v' := .own 0 _) (opv_move rfl) rfl ?_
                    refine RO.opv (v' := .d (.int _ _)) (opv_move rfl) rfl ?_
                    refine RO.opv (v' := .d (.int _ _)) (opv_move rfl) rfl ?_
                    refine RO.opv (v' := .d (.int _ _)) (opv_move rfl) rfl ?_
                    refine RO.opv (v' := .fn 19 _) (opv_move rfl) rfl ?_
                    refine RO.opn (O' := [_]) (opv_callP 1 (ih _ v mid e b (by omega) (by omega) (by omega) (by first | omega | (rw [hrl]; omega) | (rw [hsl, hrl]; omega) | (rw [hR] at hsl; rw [hsl]; omega)) (by first | omega | (rw [hrl]; omega) | (rw [hsl, hrl]; omega) | (rw [hR] at hsl; rw [hsl]; omega)) (by first | exact sA.2 | (rw [k4]; exact sA.2) | (rw [hR] at k4; rw [k4]; exact sA.2) | (rw [hS1] at k4; rw [k4]; exact sA.2) | (rw [hS1, hR] at k4; rw [k4]; exact sA.2)) (by first | exact sB.2 | (rw [k5]; exact sB.2) | (rw [hR] at k5; rw [k5]; exact sB.2) | (rw [hS1] at k5; rw [k5]; exact sB.2) | (rw [hS1, hR] at k5; rw [k5]; exact sB.2)) (by first | exact hbk | exact hrb | exact hsb | (rw [hR] at hsb; exact hsb))) rfl rfl (Nat.le_of_ble_eq_true rfl) rfl (AV.bds_of_B _ rfl)) rfl rfl ?_
                    refine RO.nil ?_
                    refine EndQ.none (.inl rfl) rfl 1 (by exact Nat.le_refl _) (by simp) ⟨rfl, ?_⟩
                    · first | (rw [hk, sym_one1 y1 (by omega) g3 hgX (all_seg y4) (all_seg (by rw [hij]; exact y5))] <;> rfl) | (rw [← hk, sym_one2 y1 (by omega) hgX (all_seg y4) (all_seg (by rw [hij]; exact y5))] <;> rfl) | (rw [← k1] <;> rfl) | (rw [← k1, hS2] <;> rfl) | (rw [← k1, hS2, hS1] <;> rfl) | (rw [← k1, hS2, hS1, hR] <;> rfl) | (rw [← k1, hS1] <;> rfl) | (rw [← k1, hS1, hR] <;> rfl) | (rw [← k1, hS2, hR] <;> rfl) | (rw [← k1, hR] <;> rfl)
                  · try simp only [Z.a, Z.b, Z.c, Z.d, Z.e, Z.f, Z.g, Z.h, Z.i, Z.j, Z.k, Z.l, Z.m] at h61
                    have hS2 : symF (symF (rotF l y.1 m e) a y.1 mid) mid e b = symF (rotF l y.1 m e) a y.1 mid := by
                      by_cases q : e = mid
                      · exact (congrArg (fun t => symF (symF (rotF l y.1 m e) a y.1 mid) mid t b) q).trans (symF_id1 (by omega) (by rw [hsl, hrl]; omega))
                      · exact (congrArg (fun t => symF (symF (rotF l y.1 m e) a y.1 mid) mid e t) (show b = e by omega)).trans (symF_id2 (by omega) (by rw [hsl, hrl]; omega))
                    refine RO.nil ?_
                    refine Runs.condF rfl ?_
                    refine Runs.skip ?_
                    refine EndQ.none (.inl rfl) rfl 1 (by exact Nat.le_refl _) (by simp) ⟨rfl, ?_⟩
                    · first | (rw [hk, sym_one1 y1 (by omega) g3 hgX (all_seg y4) (all_seg (by rw [hij]; exact y5))] <;> rfl) | (rw [← hk, sym_one2 y1 (by omega) hgX (all_seg y4) (all_seg (by rw [hij]; exact y5))] <;> rfl) | (rw [← k1] <;> rfl) | (rw [← k1, hS2] <;> rfl) | (rw [← k1, hS2, hS1] <;> rfl) | (rw [← k1, hS2, hS1, hR] <;> rfl) | (rw [← k1, hS1] <;> rfl) | (rw [← k1, hS1, hR] <;> rfl) | (rw [← k1, hS2, hR] <;> rfl) | (rw [← k1, hR] <;> rfl)
                · try simp only [Z.a, Z.b, Z.c, Z.d, Z.e, Z.f, Z.g, Z.h, Z.i, Z.j, Z.k, Z.l, Z.m] at h60
                  have hS2 : symF (symF (rotF l y.1 m e) a y.1 mid) mid e b = symF (rotF l y.1 m e) a y.1 mid := by
                    by_cases q : e = mid
                    · exact (congrArg (fun t => symF (symF (rotF l y.1 m e) a y.1 mid) mid t b) q).trans (symF_id1 (by omega) (by rw [hsl, hrl]; omega))
                    · exact (congrArg (fun t => symF (symF (rotF l y.1 m e) a y.1 mid) mid e t) (show b = e by omega)).trans (symF_id2 (by omega) (by rw [hsl, hrl]; omega))
                  refine RO.off rfl ?_
                  refine RO.off rfl ?_
                  refine RO.off rfl ?_
                  refine RO.opv (v' := .d (.bool false)) (opv_pick rfl rfl) rfl ?_
                  refine RO.nil ?_
                  refine Runs.condF rfl ?_
                  refine Runs.skip ?_
                  refine EndQ.none (.inl rfl) rfl 1 (by exact Nat.le_refl _) (by simp) ⟨rfl, ?_⟩
                  · first | (rw [hk, sym_one1 y1 (by omega) g3 hgX (all_seg y4) (all_seg (by rw [hij]; exact y5))] <;> rfl) | (rw [← hk, sym_one2 y1 (by omega) hgX (all_seg y4) (all_seg (by rw [hij]; exact y5))] <;> rfl) | (rw [← k1] <;> rfl) | (rw [← k1, hS2] <;> rfl) | (rw [← k1, hS2, hS1] <;> rfl) | (rw [← k1, hS2, hS1, hR] <;> rfl) | (rw [← k1, hS1] <;> rfl) | (rw [← k1, hS1, hR] <;> rfl) | (rw [← k1, hS2, hR] <;> rfl) | (rw [← k1, hR] <;> rfl)
              · try simp only [Z.a, Z.b, Z.c, Z.d, Z.e, Z.f, Z.g, Z.h, Z.i, Z.j, Z.k, Z.l, Z.m] at h59
                have hS1 : symF (rotF l y.1 m e) a y.1 mid = rotF l y.1 m e := by
                  by_cases q : y.1 = a
                  · exact (congrArg (fun t => symF (rotF l y.1 m e) a t mid) q).trans (symF_id1 (by omega) (by rw [hrl]; omega))
                  · exact (congrArg (fun t => symF (rotF l y.1 m e) a y.1 t) (show mid = y.1 by omega)).trans (symF_id2 (by omega) (by rw [hrl]; omega))
                refine RO.nil ?_
                refine Runs.condF rfl ?_
                refine Runs.skip ?_
                refine thenQ_normal ?_
                refine Runs.has [(0, .own 0 _), (3, .d (.int _ _)), (4, .fn 19 _), (18, .d (.int _ _)), (24, .d (.int _ _))] ⟨rfl, rfl, rfl, rfl, rfl, trivial⟩ ?_
                refine Runs.rseq ?_
                refine RO.opv (v' := .d (.int _ _)) (opv_move rfl) rfl ?_
                refine RO.opv (v' := .d (.int _ _)) (opv_move rfl) rfl ?_
                refine RO.opv (v' := .d (.bool _)) (opv_bin rfl rfl rfl) rfl ?_
                refine RO.opc (opv_move rfl) (fun h62 => ?_) (fun h62 => ?_)
                · try simp only [Z.a, Z.b, Z.c, Z.d, Z.e, Z.f, Z.g, Z.h, Z.i, Z.j, Z.k, Z.l, Z.m] at h62
                  skip
                  refine RO.opgv (v' := .d (.int _ _)) rfl (opv_move rfl) rfl ?_
                  refine RO.opgv (v' := .d (.int _ _)) rfl (opv_move rfl) rfl ?_
                  refine RO.opgv (v' := .d (.bool _)) rfl (opv_bin rfl rfl rfl) rfl ?_
                  refine RO.opc (opv_pick rfl rfl) (fun h63 => ?_) (fun h63 => ?_)
                  · try simp only [Z.a, Z.b, Z.c, Z.d, Z.e, Z.f, Z.g, Z.h, Z.i, Z.j, Z.k, Z.l, Z.m] at h63
                    skip
                    refine RO.nil ?_
                    refine Runs.condT rfl ?_
                    refine Runs.has [(0, .own 0 _), (3, .d (.int _ _)), (4, .fn 19 _), (18, .d (.int _ _)), (24, .d (.int _ _))] ⟨rfl, rfl, rfl, rfl, rfl, trivial⟩ ?_
                    refine Runs.region ?_
                    refine RO.opv (v' := .own 0 _) (opv_move rfl) rfl ?_
                    refine RO.opv (v' := .d (.int _ _)) (opv_move rfl) rfl ?_
                    refine RO.opv (v' := .d (.int _ _)) (opv_move rfl) rfl ?_
                    refine RO.opv (v' := .d (.int _ _)) (opv_move rfl) rfl ?_
                    refine RO.opv (v' := .fn 19 _) (opv_move rfl) rfl ?_
                    refine RO.opn (O' := [_]) (opv_callP 1 (ih _ v mid e b (by omega) (by omega) (by omega) (by first | omega | (rw [hrl]; omega) | (rw [hsl, hrl]; omega) | (rw [hR] at hsl; rw [hsl]; omega)) (by first | omega | (rw [hrl]; omega) | (rw [hsl, hrl]; omega) | (rw [hR] at hsl; rw [hsl]; omega)) (by first | exact sA.2 | (rw [k4]; exact sA.2) | (rw [hR] at k4; rw [k4]; exact sA.2) | (rw [hS1] at k4; rw [k4]; exact sA.2) | (rw [hS1, hR] at k4; rw [k4]; exact sA.2)) (by first | exact sB.2 | (rw [k5]; exact sB.2) | (rw [hR] at k5; rw [k5]; exact sB.2) | (rw [hS1] at k5; rw [k5]; exact sB.2) | (rw [hS1, hR] at k5; rw [k5]; exact sB.2)) (by first | exact hbk | exact hrb | exact hsb | (rw [hR] at hsb; exact hsb))) rfl rfl (Nat.le_of_ble_eq_true rfl) rfl (AV.bds_of_B _ rfl)) rfl rfl ?_
                    refine RO.nil ?_
                    refine EndQ.none (.inl rfl) rfl 1 (by exact Nat.le_refl _) (by simp) ⟨rfl, ?_⟩
                    · first | (rw [hk, sym_one1 y1 (by omega) g3 hgX (all_seg y4) (all_seg (by rw [hij]; exact y5))] <;> rfl) | (rw [← hk, sym_one2 y1 (by omega) hgX (all_seg y4) (all_seg (by rw [hij]; exact y5))] <;> rfl) | (rw [← k1] <;> rfl) | (rw [← k1, hS2] <;> rfl) | (rw [← k1, hS2, hS1] <;> rfl) | (rw [← k1, hS2, hS1, hR] <;> rfl) | (rw [← k1, hS1] <;> rfl) | (rw [← k1, hS1, hR] <;> rfl) | (rw [← k1, hS2, hR] <;> rfl) | (rw [← k1, hR] <;> rfl)
                  · try simp only [Z.a, Z.b, Z.c, Z.d, Z.e, Z.f, Z.g, Z.h, Z.i, Z.j, Z.k, Z.l, Z.m] at h63
                    have hS2 : symF (symF (rotF l y.1 m e) a y.1 mid) mid e b = symF (rotF l y.1 m e) a y.1 mid := by
                      by_cases q : e = mid
                      · exact (congrArg (fun t => symF (symF (rotF l y.1 m e) a y.1 mid) mid t b) q).trans (symF_id1 (by omega) (by rw [hsl, hrl]; omega))
                      · exact (congrArg (fun t => symF (symF (rotF l y.1 m e) a y.1 mid) mid e t) (show b = e by omega)).trans (symF_id2 (by omega) (by rw [hsl, hrl]; omega))
                    refine RO.nil ?_
                    refine Runs.condF rfl ?_
                    refine Runs.skip ?_
                    refine EndQ.none (.inl rfl) rfl 1 (by exact Nat.le_refl _) (by simp) ⟨rfl, ?_⟩
                    · first | (rw [hk, sym_one1 y1 (by omega) g3 hgX (all_seg y4) (all_seg (by rw [hij]; exact y5))] <;> rfl) | (rw [← hk, sym_one2 y1 (by omega) hgX (all_seg y4) (all_seg (by rw [hij]; exact y5))] <;> rfl) | (rw [← k1] <;> rfl) | (rw [← k1, hS2] <;> rfl) | (rw [← k1, hS2, hS1] <;> rfl) | (rw [← k1, hS2, hS1, hR] <;> rfl) | (rw [← k1, hS1] <;> rfl) | (rw [← k1, hS1, hR] <;> rfl) | (rw [← k1, hS2, hR] <;> rfl) | (rw [← k1, hR] <;> rfl)
                · try simp only [Z.a, Z.b, Z.c, Z.d, Z.e, Z.f, Z.g, Z.h, Z.i, Z.j, Z.k, Z.l, Z.m] at h62
                  have hS2 : symF (symF (rotF l y.1 m e) a y.1 mid) mid e b = symF (rotF l y.1 m e) a y.1 mid := by
                    by_cases q : e = mid
                    · exact (congrArg (fun t => symF (symF (rotF l y.1 m e) a y.1 mid) mid t b) q).trans (symF_id1 (by omega) (by rw [hsl, hrl]; omega))
                    · exact (congrArg (fun t => symF (symF (rotF l y.1 m e) a y.1 mid) mid e t) (show b = e by omega)).trans (symF_id2 (by omega) (by rw [hsl, hrl]; omega))
                  refine RO.off rfl ?_
                  refine RO.off rfl ?_
                  refine RO.off rfl ?_
                  refine RO.opv (v' := .d (.bool false)) (opv_pick rfl rfl) rfl ?_
                  refine RO.nil ?_
                  refine Runs.condF rfl ?_
                  refine Runs.skip ?_
                  refine EndQ.none (.inl rfl) rfl 1 (by exact Nat.le_refl _) (by simp) ⟨rfl, ?_⟩
                  · first | (rw [hk, sym_one1 y1 (by omega) g3 hgX (all_seg y4) (all_seg (by rw [hij]; exact y5))] <;> rfl) | (rw [← hk, sym_one2 y1 (by omega) hgX (all_seg y4) (all_seg (by rw [hij]; exact y5))] <;> rfl) | (rw [← k1] <;> rfl) | (rw [← k1, hS2] <;> rfl) | (rw [← k1, hS2, hS1] <;> rfl) | (rw [← k1, hS2, hS1, hR] <;> rfl) | (rw [← k1, hS1] <;> rfl) | (rw [← k1, hS1, hR] <;> rfl) | (rw [← k1, hS2, hR] <;> rfl) | (rw [← k1, hR] <;> rfl)
            · try simp only [Z.a, Z.b, Z.c, Z.d, Z.e, Z.f, Z.g, Z.h, Z.i, Z.j, Z.k, Z.l, Z.m] at h58
              have hS1 : symF (rotF l y.1 m e) a y.1 mid = rotF l y.1 m e := by
                by_cases q : y.1 = a
                · exact (congrArg (fun t => symF (rotF l y.1 m e) a t mid) q).trans (symF_id1 (by omega) (by rw [hrl]; omega))
                · exact (congrArg (fun t => symF (rotF l y.1 m e) a y.1 t) (show mid = y.1 by omega)).trans (symF_id2 (by omega) (by rw [hrl]; omega))
              refine RO.off rfl ?_
              refine RO.off rfl ?_
              refine RO.off rfl ?_
              refine RO.opv (v' := .d (.bool false)) (opv_pick rfl rfl) rfl ?_
              refine RO.nil ?_
              refine Runs.condF rfl ?_
              refine Runs.skip ?_
              refine thenQ_normal ?_
              refine Runs.has [(0, .own 0 _), (3, .d (.int _ _)), (4, .fn 19 _), (18, .d (.int _ _)), (24, .d (.int _ _))] ⟨rfl, rfl, rfl, rfl, rfl, trivial⟩ ?_
              refine Runs.rseq ?_
              refine RO.opv (v' := .d (.int _ _)) (opv_move rfl) rfl ?_
              refine RO.opv (v' := .d (.int _ _)) (opv_move rfl) rfl ?_
              refine RO.opv (v' := .d (.bool _)) (opv_bin rfl rfl rfl) rfl ?_
              refine RO.opc (opv_move rfl) (fun h64 => ?_) (fun h64 => ?_)
              · try simp only [Z.a, Z.b, Z.c, Z.d, Z.e, Z.f, Z.g, Z.h, Z.i, Z.j, Z.k, Z.l, Z.m] at h64
                skip
                refine RO.opgv (v' := .d (.int _ _)) rfl (opv_move rfl) rfl ?_
                refine RO.opgv (v' := .d (.int _ _)) rfl (opv_move rfl) rfl ?_
                refine RO.opgv (v' := .d (.bool _)) rfl (opv_bin rfl rfl rfl) rfl ?_
                refine RO.opc (opv_pick rfl rfl) (fun h65 => ?_) (fun h65 => ?_)
                · try simp only [Z.a, Z.b, Z.c, Z.d, Z.e, Z.f, Z.g, Z.h, Z.i, Z.j, Z.k, Z.l, Z.m] at h65
                  skip
                  refine RO.nil ?_
                  refine Runs.condT rfl ?_
                  refine Runs.has [(0, .own 0 _), (3, .d (.int _ _)), (4, .fn 19 _), (18, .d (.int _ _)), (24, .d (.int _ _))] ⟨rfl, rfl, rfl, rfl, rfl, trivial⟩ ?_
                  refine Runs.region ?_
                  refine RO.opv (v' := .own 0 _) (opv_move rfl) rfl ?_
                  refine RO.opv (v' := .d (.int _ _)) (opv_move rfl) rfl ?_
                  refine RO.opv (v' := .d (.int _ _)) (opv_move rfl) rfl ?_
                  refine RO.opv (v' := .d (.int _ _)) (opv_move rfl) rfl ?_
                  refine RO.opv (v' := .fn 19 _) (opv_move rfl) rfl ?_
                  refine RO.opn (O' := [_]) (opv_callP 1 (ih _ v mid e b (by omega) (by omega) (by omega) (by first | omega | (rw [hrl]; omega) | (rw [hsl, hrl]; omega) | (rw [hR] at hsl; rw [hsl]; omega)) (by first | omega | (rw [hrl]; omega) | (rw [hsl, hrl]; omega) | (rw [hR] at hsl; rw [hsl]; omega)) (by first | exact sA.2 | (rw [k4]; exact sA.2) | (rw [hR] at k4; rw [k4]; exact sA.2) | (rw [hS1] at k4; rw [k4]; exact sA.2) | (rw [hS1, hR] at k4; rw [k4]; exact sA.2)) (by first | exact sB.2 | (rw [k5]; exact sB.2) | (rw [hR] at k5; rw [k5]; exact sB.2) | (rw [hS1] at k5; rw [k5]; exact sB.2) | (rw [hS1, hR] at k5; rw [k5]; exact sB.2)) (by first | exact hbk | exact hrb | exact hsb | (rw [hR] at hsb; exact hsb))) rfl rfl (Nat.le_of_ble_eq_true rfl) rfl (AV.bds_of_B _ rfl)) rfl rfl ?_
                  refine RO.nil ?_
                  refine EndQ.none (.inl rfl) rfl 1 (by exact Nat.le_refl _) (by simp) ⟨rfl, ?_⟩
                  · first | (rw [hk, sym_one1 y1 (by omega) g3 hgX (all_seg y4) (all_seg (by rw [hij]; exact y5))] <;> rfl) | (rw [← hk, sym_one2 y1 (by omega) hgX (all_seg y4) (all_seg (by rw [hij]; exact y5))] <;> rfl) | (rw [← k1] <;> rfl) | (rw [← k1, hS2] <;> rfl) | (rw [← k1, hS2, hS1] <;> rfl) | (rw [← k1, hS2, hS1, hR] <;> rfl) | (rw [← k1, hS1] <;> rfl) | (rw [← k1, hS1, hR] <;> rfl) | (rw [← k1, hS2, hR] <;> rfl) | (rw [← k1, hR] <;> rfl)
                · try simp only [Z.a, Z.b, Z.c, Z.d, Z.e, Z.f, Z.g, Z.h, Z.i, Z.j, Z.k, Z.l, Z.m] at h65
                  have hS2 : symF (symF (rotF l y.1 m e) a y.1 mid) mid e b = symF (rotF l y.1 m e) a y.1 mid := by
                    by_cases q : e = mid
                    · exact (congrArg (fun t => symF (symF (rotF l y.1 m e) a y.1 mid) mid t b) q).trans (symF_id1 (by omega) (by rw [hsl, hrl]; omega))
                    · exact (congrArg (fun t => symF (symF (rotF l y.1 m e) a y.1 mid) mid e t) (show b = e by omega)).trans (symF_id2 (by omega) (by rw [hsl, hrl]; omega))
                  refine RO.nil ?_
                  refine Runs.condF rfl ?_
                  refine Runs.skip ?_
                  refine EndQ.none (.inl rfl) rfl 1 (by exact Nat.le_refl _) (by simp) ⟨rfl, ?_⟩
                  · first | (rw [hk, sym_one1 y1 (by omega) g3 hgX (all_seg y4) (all_seg (by rw [hij]; exact y5))] <;> rfl) | (rw [← hk, sym_one2 y1 (by omega) hgX (all_seg y4) (all_seg (by rw [hij]; exact y5))] <;> rfl) | (rw [← k1] <;> rfl) | (rw [← k1, hS2] <;> rfl) | (rw [← k1, hS2, hS1] <;> rfl) | (rw [← k1, hS2, hS1, hR] <;> rfl) | (rw [← k1, hS1] <;> rfl) | (rw [← k1, hS1, hR] <;> rfl) | (rw [← k1, hS2, hR] <;> rfl) | (rw [← k1, hR] <;> rfl)
              · try simp only [Z.a, Z.b, Z.c, Z.d, Z.e, Z.f, Z.g, Z.h, Z.i, Z.j, Z.k, Z.l, Z.m] at h64
                have hS2 : symF (symF (rotF l y.1 m e) a y.1 mid) mid e b = symF (rotF l y.1 m e) a y.1 mid := by
                  by_cases q : e = mid
                  · exact (congrArg (fun t => symF (symF (rotF l y.1 m e) a y.1 mid) mid t b) q).trans (symF_id1 (by omega) (by rw [hsl, hrl]; omega))
                  · exact (congrArg (fun t => symF (symF (rotF l y.1 m e) a y.1 mid) mid e t) (show b = e by omega)).trans (symF_id2 (by omega) (by rw [hsl, hrl]; omega))
                refine RO.off rfl ?_
                refine RO.off rfl ?_
                refine RO.off rfl ?_
                refine RO.opv (v' := .d (.bool false)) (opv_pick rfl rfl) rfl ?_
                refine RO.nil ?_
                refine Runs.condF rfl ?_
                refine Runs.skip ?_
                refine EndQ.none (.inl rfl) rfl 1 (by exact Nat.le_refl _) (by simp) ⟨rfl, ?_⟩
                · first | (rw [hk, sym_one1 y1 (by omega) g3 hgX (all_seg y4) (all_seg (by rw [hij]; exact y5))] <;> rfl) | (rw [← hk, sym_one2 y1 (by omega) hgX (all_seg y4) (all_seg (by rw [hij]; exact y5))] <;> rfl) | (rw [← k1] <;> rfl) | (rw [← k1, hS2] <;> rfl) | (rw [← k1, hS2, hS1] <;> rfl) | (rw [← k1, hS2, hS1, hR] <;> rfl) | (rw [← k1, hS1] <;> rfl) | (rw [← k1, hS1, hR] <;> rfl) | (rw [← k1, hS2, hR] <;> rfl) | (rw [← k1, hR] <;> rfl)
theorem stable_fn (l : List Term) (v : Nat) (hn : l.length ≤ 30) (hbk : ∀ x ∈ l, x.bulk ≤ 2 ^ 30) : Fn Try.prog 61 [.own 0 v, .d (.int .i64 ((l.length : Nat) : Int)), .fn 19 []] [.buf 24 4 (encs l) v] (.tup []) [.buf 24 4 (encs (isrt l)) v] := by
  refine Does.run Try.func61 rfl Try.ntmps61 rfl fun K hK => ?_
  refine Runs.rseq ?_
  refine RO.opv (v' := .d (.int _ _)) (opv_assign rfl) rfl ?_
  refine RO.nil ?_
  refine Runs.rseq ?_
  refine RO.opv (v' := .d (.int _ _)) (opv_move rfl) rfl ?_
  refine RO.opv (v' := .d (.int _ _)) (opv_assign rfl) rfl ?_
  refine RO.opv (v' := .d (.int _ _)) (opv_assign rfl) rfl ?_
  refine RO.nil ?_
  refine Runs.has [(0, .own 0 _), (1, .d (.int _ _)), (2, .fn 19 _), (6, .d (.int _ _)), (7, .d (.int _ _)), (8, .d (.int _ _))] ⟨rfl, rfl, rfl, rfl, rfl, rfl, trivial⟩ ?_
  refine Runs.seq ?_
  refine Runs.block ?_
  refine Runs.loopC (X := Nat) (fun c => c ≤ 1 ∧ (c = 1 → 20 ≤ l.length)) (fun c => 1 - c) [(0, .own 0 _), (1, .d (.int _ _)), (2, .fn 19 _), (6, .d (.int _ _))] (fun c => [(7, .d (.int .i64 ((20 * c : Nat) : Int))), (8, .d (.int .i64 ((20 * c + 20 : Nat) : Int)))]) [] (fun c => [.buf 24 4 (encs (blk l c)) v]) (0) ⟨rfl, rfl, rfl, rfl, trivial⟩ ⟨rfl, rfl, trivial⟩ rfl ⟨Nat.zero_le _, fun h => absurd h (by decide)⟩ fun c hc0 => ?_
  refine Runs.seq ?_
  refine Runs.rseq ?_
  refine RO.opv (v' := .d (.int _ _)) (opv_move rfl) rfl ?_
  refine RO.opv (v' := .d (.int _ _)) (opv_move rfl) rfl ?_
  refine RO.opc (opv_bin rfl rfl rfl) (fun h1 => ?_) (fun h1 => ?_)
  · try simp only [Z.a, Z.b, Z.c, Z.d, Z.e, Z.f, Z.g, Z.h, Z.i, Z.j, Z.k, Z.l, Z.m] at h1
    have hc : c = 0 := by omega
    refine RO.nil ?_
    refine Runs.condT rfl ?_
    refine Runs.skip ?_
    refine thenQ_normal ?_
    refine Runs.block ?_
    refine Runs.has [(0, .own 0 _), (1, .d (.int _ _)), (2, .fn 19 _), (6, .d (.int _ _)), (7, .d (.int _ _)), (8, .d (.int _ _))] ⟨rfl, rfl, rfl, rfl, rfl, rfl, trivial⟩ ?_
    refine Runs.rseq ?_
    refine RO.opv (v' := .own 0 _) (opv_move rfl) rfl ?_
    refine RO.opv (v' := .d (.int _ _)) (opv_move rfl) rfl ?_
    refine RO.opv (v' := .d (.int _ _)) (opv_move rfl) rfl ?_
    refine RO.opv (v' := .fn 19 _) (opv_move rfl) rfl ?_
    refine RO.opn (O' := [_]) (opv_callP 1 (ins_fn (blk l c) v (20 * c) (20 * c + 20) (by rw [blk_len]; omega) (by rw [blk_len]; omega) (by omega) (fun x hx => hbk x (blk_mem hx))) rfl rfl (Nat.le_of_ble_eq_true rfl) rfl (AV.bds_of_B _ rfl)) rfl rfl ?_
    refine RO.nil ?_
    refine Runs.has [(0, .own 0 _), (1, .d (.int _ _)), (2, .fn 19 _), (6, .d (.int _ _)), (7, .d (.int _ _)), (8, .d (.int _ _))] ⟨rfl, rfl, rfl, rfl, rfl, rfl, trivial⟩ ?_
    refine Runs.rseq ?_
    refine RO.opv (v' := .d (.int _ _)) (opv_move rfl) rfl ?_
    refine RO.opv (v' := .d (.int _ _)) (opv_assign rfl) rfl ?_
    refine RO.nil ?_
    refine Runs.has [(0, .own 0 _), (1, .d (.int _ _)), (2, .fn 19 _), (6, .d (.int _ _)), (7, .d (.int _ _)), (8, .d (.int _ _))] ⟨rfl, rfl, rfl, rfl, rfl, rfl, trivial⟩ ?_
    refine Runs.region ?_
    refine RO.opv (v' := .d (.int _ _)) (opv_move rfl) rfl ?_
    refine RO.opv (v' := .d (.int _ _)) (opv_move rfl) rfl ?_
    refine RO.opv (v' := .d (.int _ _)) (opv_arith (r := ((20 * c + 20 + 20 : Nat) : Int)) rfl rfl (by simp only [binD, if_true]; rw [wrap64 (by omega) (by omega)]; congr 2)) rfl ?_
    refine RO.opv (v' := .d (.int _ _)) (opv_assign rfl) rfl ?_
    refine RO.nil ?_
    refine blockQ_normal ?_
    refine thenQ_normal ?_
    refine ⟨c + 1, 1, (by rw [hK]; exact Nat.le_of_ble_eq_true rfl), ⟨rfl, rfl, rfl, rfl, trivial⟩, ⟨?_, ?_, trivial⟩, ?_, ?_, ?_⟩
    · refine int_eq ?_; omega
    · refine int_eq ?_; omega
    · rw [hc]; rfl
    · exact ⟨by omega, fun _ => by omega⟩
    · omega
  · try simp only [Z.a, Z.b, Z.c, Z.d, Z.e, Z.f, Z.g, Z.h, Z.i, Z.j, Z.k, Z.l, Z.m] at h1
    have hcn : ¬ 20 * c + 20 ≤ l.length := by omega
    refine RO.nil ?_
    refine Runs.condF rfl ?_
    refine Runs.exit ?_
    refine thenQ_exit ?_
    refine thenQ_exit ?_
    refine blockQ_here ?_
    refine thenQ_normal ?_
    refine Runs.has [(0, .own 0 _), (1, .d (.int _ _)), (2, .fn 19 _), (6, .d (.int _ _)), (7, .d (.int _ _)), (8, .d (.int _ _))] ⟨rfl, rfl, rfl, rfl, rfl, rfl, trivial⟩ ?_
    refine Runs.rseq ?_
    refine RO.opv (v' := .own 0 _) (opv_move rfl) rfl ?_
    refine RO.opv (v' := .d (.int _ _)) (opv_move rfl) rfl ?_
    refine RO.opv (v' := .d (.int _ _)) (opv_move rfl) rfl ?_
    refine RO.opv (v' := .fn 19 _) (opv_move rfl) rfl ?_
    refine RO.opn (O' := [_]) (opv_callP 1 (ins_fn (blk l c) v (20 * c) l.length (by rw [blk_len]; omega) (by rw [blk_len]; omega) (by omega) (fun x hx => hbk x (blk_mem hx))) rfl rfl (Nat.le_of_ble_eq_true rfl) rfl (AV.bds_of_B _ rfl)) rfl rfl ?_
    refine RO.nil ?_
    refine Runs.block ?_
    refine Runs.loopC (X := Nat) (fun d => d ≤ 1) (fun d => 1 - d) [(0, .own 0 _), (1, .d (.int _ _)), (2, .fn 19 _)] (fun d => [(6, .d (.int .i64 ((20 + 20 * d : Nat) : Int)))]) [] (fun d => [.buf 24 4 (encs (mrg l c d)) v]) (0) ⟨rfl, rfl, rfl, trivial⟩ ⟨rfl, trivial⟩ rfl (Nat.zero_le _) fun d hd0 => ?_
    refine Runs.seq ?_
    refine Runs.rseq ?_
    refine RO.opv (v' := .d (.int _ _)) (opv_move rfl) rfl ?_
    refine RO.opv (v' := .d (.int _ _)) (opv_move rfl) rfl ?_
    refine RO.opc (opv_bin rfl rfl rfl) (fun h2 => ?_) (fun h2 => ?_)
    · try simp only [Z.a, Z.b, Z.c, Z.d, Z.e, Z.f, Z.g, Z.h, Z.i, Z.j, Z.k, Z.l, Z.m] at h2
      have hd : d = 0 := by omega
      have hc1 : c = 1 := by omega
      have hM : mrg l c d = isrt (l.take 20) ++ isrt (l.drop 20) := by rw [hd, hc1]; exact mrg_10 (by omega)
      refine RO.nil ?_
      refine Runs.condT rfl ?_
      refine Runs.skip ?_
      refine thenQ_normal ?_
      refine Runs.block ?_
      refine Runs.has [(0, .own 0 _), (1, .d (.int _ _)), (2, .fn 19 _), (6, .d (.int _ _))] ⟨rfl, rfl, rfl, rfl, trivial⟩ ?_
      refine Runs.rseq ?_
      refine RO.opv (v' := .d (.int _ _)) (opv_move rfl) rfl ?_
      refine RO.opv (v' := .d (.int _ _)) (opv_arith (r := ((2 * (20 + 20 * d) : Nat) : Int)) rfl rfl (by simp only [binD, if_true]; rw [wrap64 (by omega) (by omega)]; congr 2)) rfl ?_
      refine RO.opv (v' := .d (.int _ _)) (opv_assign rfl) rfl ?_
      refine RO.opv (v' := .d (.int _ _)) (opv_assign rfl) rfl ?_
      refine RO.nil ?_
      refine Runs.has [(0, .own 0 _), (1, .d (.int _ _)), (2, .fn 19 _), (6, .d (.int _ _)), (7, .d (.int _ _)), (8, .d (.int _ _))] ⟨rfl, rfl, rfl, rfl, rfl, rfl, trivial⟩ ?_
      refine Runs.seq ?_
      refine Runs.block ?_
      refine Runs.loopC (X := Nat) (fun u => True) (fun u => 0) [(0, .own 0 _), (1, .d (.int _ _)), (2, .fn 19 _), (6, .d (.int _ _))] (fun u => [(7, .d (.int .i64 0)), (8, .d (.int .i64 ((2 * (20 + 20 * d) : Nat) : Int)))]) [] (fun u => [.buf 24 4 (encs (mrg l c d)) v]) (0) ⟨rfl, rfl, rfl, rfl, trivial⟩ ⟨rfl, rfl, trivial⟩ rfl trivial fun u hu0 => ?_
      refine Runs.seq ?_
      refine Runs.rseq ?_
      refine RO.opv (v' := .d (.int _ _)) (opv_move rfl) rfl ?_
      refine RO.opv (v' := .d (.int _ _)) (opv_move rfl) rfl ?_
      refine RO.opc (opv_bin rfl rfl rfl) (fun h3 => ?_) (fun h3 => ?_)
      · try simp only [Z.a, Z.b, Z.c, Z.d, Z.e, Z.f, Z.g, Z.h, Z.i, Z.j, Z.k, Z.l, Z.m] at h3
        omega
      · try simp only [Z.a, Z.b, Z.c, Z.d, Z.e, Z.f, Z.g, Z.h, Z.i, Z.j, Z.k, Z.l, Z.m] at h3
        refine RO.nil ?_
        refine Runs.condF rfl ?_
        refine Runs.exit ?_
        refine thenQ_exit ?_
        refine thenQ_exit ?_
        refine blockQ_here ?_
        refine thenQ_normal ?_
        refine Runs.has [(0, .own 0 _), (1, .d (.int _ _)), (2, .fn 19 _), (6, .d (.int _ _)), (7, .d (.int _ _))] ⟨rfl, rfl, rfl, rfl, rfl, trivial⟩ ?_
        refine Runs.seq ?_
        refine Runs.rseq ?_
        refine RO.opv (v' := .d (.int _ _)) (opv_move rfl) rfl ?_
        refine RO.opv (v' := .d (.int _ _)) (opv_move rfl) rfl ?_
        refine RO.opv (v' := .d (.int _ _)) (opv_arith (r := ((20 + 20 * d : Nat) : Int)) rfl rfl (by simp only [binD, if_true]; rw [wrap64 (by omega) (by omega)]; congr 2; omega)) rfl ?_
        refine RO.opv (v' := .d (.int _ _)) (opv_assign rfl) rfl ?_
        refine RO.nil ?_
        refine Runs.has [(0, .own 0 _), (1, .d (.int _ _)), (2, .fn 19 _), (6, .d (.int _ _)), (7, .d (.int _ _)), (9, .d (.int _ _))] ⟨rfl, rfl, rfl, rfl, rfl, rfl, trivial⟩ ?_
        refine Runs.rseq ?_
        refine RO.opv (v' := .d (.int _ _)) (opv_move rfl) rfl ?_
        refine RO.opv (v' := .d (.int _ _)) (opv_move rfl) rfl ?_
        refine RO.opc (opv_bin rfl rfl rfl) (fun h4 => ?_) (fun h4 => ?_)
        · try simp only [Z.a, Z.b, Z.c, Z.d, Z.e, Z.f, Z.g, Z.h, Z.i, Z.j, Z.k, Z.l, Z.m] at h4
          refine RO.nil ?_
          refine Runs.condT rfl ?_
          refine Runs.has [(0, .own 0 _), (1, .d (.int _ _)), (2, .fn 19 _), (6, .d (.int _ _)), (7, .d (.int _ _)), (9, .d (.int _ _))] ⟨rfl, rfl, rfl, rfl, rfl, rfl, trivial⟩ ?_
          refine Runs.region ?_
          refine RO.opv (v' := .own 0 _) (opv_move rfl) rfl ?_
          refine RO.opv (v' := .d (.int _ _)) (opv_move rfl) rfl ?_
          refine RO.opv (v' := .d (.int _ _)) (opv_move rfl) rfl ?_
          refine RO.opv (v' := .d (.int _ _)) (opv_move rfl) rfl ?_
          refine RO.opv (v' := .fn 19 _) (opv_move rfl) rfl ?_
          refine RO.opn (O' := [_]) (opv_callP 1 (sym_aux _ _ v 0 (20 + 20 * d) l.length (Nat.le_refl _) (by omega) (by omega) (by rw [mrg_len]; omega) (by rw [mrg_len]; omega) (by rw [hM, hd]; exact (blocks3 (by omega)).1) (by rw [hM, hd]; exact (blocks3 (by omega)).2.1) (fun x hx => hbk x (mrg_mem hx))) rfl rfl (Nat.le_of_ble_eq_true rfl) rfl (AV.bds_of_B _ rfl)) rfl rfl ?_
          refine RO.nil ?_
          refine thenQ_normal ?_
          refine Runs.has [(0, .own 0 _), (1, .d (.int _ _)), (2, .fn 19 _), (6, .d (.int _ _))] ⟨rfl, rfl, rfl, rfl, trivial⟩ ?_
          refine Runs.region ?_
          refine RO.opv (v' := .d (.int _ _)) (opv_move rfl) rfl ?_
          refine RO.opv (v' := .d (.int _ _)) (opv_arith (r := (((20 + 20 * d) * 2 : Nat) : Int)) rfl rfl (by simp only [binD, if_true]; rw [wrap64 (by omega) (by omega)]; congr 2)) rfl ?_
          refine RO.opv (v' := .d (.int _ _)) (opv_assign rfl) rfl ?_
          refine RO.nil ?_
          refine blockQ_normal ?_
          refine thenQ_normal ?_
          refine ⟨d + 1, 1, (by rw [hK]; exact Nat.le_of_ble_eq_true rfl), ⟨rfl, rfl, rfl, trivial⟩, ⟨?_, trivial⟩, ?_, ?_, ?_⟩
          · refine int_eq ?_; omega
          · rw [hM, hd, (blocks3 (by omega)).2.2]; rfl
          · omega
          · omega
        · try simp only [Z.a, Z.b, Z.c, Z.d, Z.e, Z.f, Z.g, Z.h, Z.i, Z.j, Z.k, Z.l, Z.m] at h4
          omega
    · try simp only [Z.a, Z.b, Z.c, Z.d, Z.e, Z.f, Z.g, Z.h, Z.i, Z.j, Z.k, Z.l, Z.m] at h2
      have hdn : ¬ 20 + 20 * d < l.length := by omega
      refine RO.nil ?_
      refine Runs.condF rfl ?_
      refine Runs.exit ?_
      refine thenQ_exit ?_
      refine thenQ_exit ?_
      refine blockQ_here ?_
      refine EndQ.none (.inl rfl) rfl 1 (by exact Nat.le_refl _) (by simp) ⟨rfl, ?_⟩
      · rw [mrg_end hc0.1 hd0 hc0.2 hcn hdn]; rfl
theorem sortst_fn (l : List Term) (v : Nat) (hn : l.length ≤ 30) (hbk : ∀ x ∈ l, x.bulk ≤ 2 ^ 30) : Fn Try.prog 47 [.own 0 v, .fn 19 []] [.buf 24 4 (encs l) v] (.tup []) [.buf 24 4 (encs (isrt l)) v] := by
  refine Does.run Try.func47 rfl Try.ntmps47 rfl fun K hK => ?_
  refine Runs.region ?_
  refine RO.opv (v' := .own 0 _) (opv_move rfl) rfl ?_
  refine RO.opv (v' := .own 0 _) (opv_move rfl) rfl ?_
  refine RO.opv (v' := .d (.int _ _)) (opv_len_oterms rfl rfl) rfl ?_
  refine RO.opv (v' := .fn 19 _) (opv_move rfl) rfl ?_
  refine RO.opn (O' := [_]) (opv_callP 1 (stable_fn l v hn hbk) rfl rfl (Nat.le_of_ble_eq_true rfl) rfl (AV.bds_of_B _ rfl)) rfl rfl ?_
  refine RO.nil ?_
  refine EndQ.none (.inl rfl) rfl 1 (by exact Nat.le_refl _) (by simp) ⟨rfl, ?_⟩
  · rfl
end Go.Proofs.Ythpiggjclhnkcaa.AM
