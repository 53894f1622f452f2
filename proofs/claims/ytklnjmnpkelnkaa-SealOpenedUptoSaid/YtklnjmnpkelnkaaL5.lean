import Derived.Test.YtklnjmnpkelnkaaL0
namespace Go.Proofs.Ytklnjmnpkelnkaa.AM
open Go
set_option linter.unusedVariables false
set_option linter.unusedSimpArgs false
theorem sealOpened_fn (n : Int) (t : Term) (a b : Int) (g1 : 0 ≤ n) (g1' : n ≤ 255) (g2 : t.bulk ≤ 2 ^ 20) (_g2' : t.fits) (g3 : 0 ≤ a) (g3' : a ≤ 255) (g4 : 0 ≤ b) (g4' : b ≤ 255) : Fn Try.prog 7 [.d (.int .u8 n), .d (enc t), .d (.int .u8 a), .d (.int .u8 b)] [] (.d (.bool true)) [] := by
  obtain ⟨k, hkn⟩ : ∃ k : Nat, (k : Int) = n.tmod 16 := ⟨(n.tmod 16).toNat, by rw [Int.tmod_eq_emod_of_nonneg g1]; omega⟩
  have hk : k < 16 := by rw [Int.tmod_eq_emod_of_nonneg g1] at hkn; omega
  have hn := C_n hk
  have hrem : n.tmod 16 = (k : Int) := hkn.symm
  obtain ⟨x, x0⟩ : ∃ x : Int, a.tmod (C k).n = x := ⟨_, rfl⟩
  have x1 : 0 ≤ x ∧ x ≤ (k : Nat) := by rw [hn, Int.tmod_eq_emod_of_nonneg g3] at x0; have := Int.emod_nonneg a (show (k : Int) + 1 ≠ 0 by omega); have := Int.emod_lt_of_pos a (show (0 : Int) < (k : Int) + 1 by omega); omega
  obtain ⟨y, y0⟩ : ∃ x : Int, b.tmod (C k).n = x := ⟨_, rfl⟩
  have y1 : 0 ≤ y ∧ y ≤ (k : Nat) := by rw [hn, Int.tmod_eq_emod_of_nonneg g4] at y0; have := Int.emod_nonneg b (show (k : Int) + 1 ≠ 0 by omega); have := Int.emod_lt_of_pos b (show (0 : Int) < (k : Int) + 1 by omega); omega
  have pb : (putS (putS t x) y).bulk = 0 + ((0 + (t.bulk + 0) + 1) + 0) + 1 := rfl
  have pj : (putS t ((C k).join x y)).bulk = 0 + (t.bulk + 0) + 1 := rfl
  have b1 := sopen_bulk (C k) t
  have b2 := sopen_bulk (C k) (putS (putS t x) y)
  have b3 := sopen_bulk (C k) (putS t ((C k).join x y))
  have hj := C_join hk x1.1 x1.2 y1.1 y1.2
  have hm := opn_max hk t 0 (Int.le_refl _) (by omega)
  have e1 := sopen_put hk (putS t x) y1.1 y1.2
  rw [opn_put hk t x1.1 x1.2] at e1
  have e2 := sopen_put hk t (n := (C k).join x y) (by omega) (by omega)
  rw [hj] at e2
  have e3 := sopen_like hk t
  have e4 : max y (max x (t.opn (C k) 0).2) = max (max x y) (t.opn (C k) 0).2 := by omega
  rw [show (((t.opn (C k) 0).1, max x (t.opn (C k) 0).2) : Term × Int).2 = max x (t.opn (C k) 0).2 from rfl, e4] at e1
  refine Does.run Try.func7 rfl Try.ntmps7 rfl fun K hK => ?_
  refine Runs.rseq ?_
  refine RO.opn (v' := .ref 0 0) (O' := [_]) (opv_box_term rfl) rfl rfl ?_
  refine RO.opv (v' := .d (.bool false)) (opv_assign rfl) rfl ?_
  refine RO.nil ?_
  refine Runs.has [(0, .d (.int _ _)), (2, .d (.int _ _)), (3, .d (.int _ _)), (5, .ref 0 0), (8, .d (.bool false))] ⟨rfl, rfl, rfl, rfl, rfl, trivial⟩ ?_
  refine Runs.rseq ?_
  refine RO.opv (v' := .d (.bool true)) (opv_callF (shown_fn) rfl rfl rfl trivial) rfl ?_
  refine RO.opv (v' := .d (.bool true)) (opv_assign rfl) rfl ?_
  refine RO.nil ?_
  refine Runs.has [(0, .d (.int _ _)), (2, .d (.int _ _)), (3, .d (.int _ _)), (5, .ref 0 0), (8, .d (.bool false)), (9, .d (.bool true))] ⟨rfl, rfl, rfl, rfl, rfl, rfl, trivial⟩ ?_
  refine Runs.rseq ?_
  refine RO.opv (v' := .d (.int _ _)) (opv_move rfl) rfl ?_
  refine RO.opv (v' := .d (.int _ _)) (opv_arith (r := (k : Int)) rfl rfl (by simp only [binD, if_true]; rw [if_neg (by decide), hrem])) rfl ?_
  refine RO.opv (v' := .d (.int _ _)) (opv_conv (r := (k : Int)) rfl (wrap64 (by omega) (by omega))) rfl ?_
  refine RO.opv (v' := .d (.int _ _)) (opv_arith (r := ((k + 1 : Nat) : Int)) rfl rfl (by simp only [binD, if_true]; rw [wrap64 (by omega) (by omega)]; congr 2; omega)) rfl ?_
  refine RO.opv (v' := .d (encL _)) (opv_callF (chain_fn k hk) rfl rfl rfl trivial) rfl ?_
  refine RO.opv (v' := .d (encL _)) (opv_assign rfl) rfl ?_
  refine RO.nil ?_
  refine Runs.has [(2, .d (.int _ _)), (3, .d (.int _ _)), (5, .ref 0 0), (8, .d (.bool false)), (9, .d (.bool true)), (10, .d (encL _))] ⟨rfl, rfl, rfl, rfl, rfl, rfl, trivial⟩ ?_
  refine Runs.seq ?_
  refine Runs.seq ?_
  refine Runs.drawn (by kernel_rfl) [] [false, false, false, false, false, false, false, false, false, false, false, false, false, false] [false, false, false, false, false, false, false, false, false, false, false, false, false, false] (by decide +kernel) ?_
  refine RD.opv (v' := .d (encL _)) (opv_move rfl) rfl ?_
  refine RD.opv (v' := .d (.bool false)) (opv_eqnil rfl rfl rfl) rfl ?_
  refine RD.opv (v' := .d (.bool false)) (opv_move rfl) rfl ?_
  refine RD.opgv (v' := .d (enc _)) rfl (opv_load_term rfl rfl rfl) rfl ?_
  refine RD.opgv (v' := .d (.bool _)) rfl (opv_callF (few_fn t (by omega)) rfl rfl rfl trivial) rfl ?_
  refine RD.opgv (v' := .d (.bool _)) rfl (opv_not rfl rfl) rfl ?_
  refine RD.opv (v' := .d (.bool _)) (opv_pick rfl rfl) rfl ?_
  refine RD.opc (opv_move rfl) (fun h1 => ?_) (fun h1 => ?_)
  · try simp only [decide_eq_true_eq, decide_eq_false_iff_not, beq_iff_eq, beq_eq_false_iff_ne, bne_iff_ne, bne_eq_false_iff_eq, Int.not_lt, Int.not_le, ne_eq, Bool.not_eq_true', Bool.not_eq_false', gt_iff_lt, ge_iff_le] at h1
    refine RD.off rfl ?_
    refine RD.off rfl ?_
    refine RD.off rfl ?_
    refine RD.off rfl ?_
    refine RD.off rfl ?_
    refine RD.opv (v' := .d (.bool true)) (opv_pick rfl rfl) rfl ?_
    refine RD.nil ?_
    refine thenQ_normal ?_
    refine Runs.condT rfl ?_
    refine Runs.has [(2, .d (.int _ _)), (3, .d (.int _ _)), (5, .ref 0 0), (8, .d (.bool false)), (9, .d (.bool true)), (10, .d (encL _))] ⟨rfl, rfl, rfl, rfl, rfl, rfl, trivial⟩ ?_
    refine Runs.rseq ?_
    refine RO.opv (v' := .d (.bool true)) (opv_move rfl) rfl ?_
    refine RO.opv (v' := .d (.bool true)) (opv_move rfl) rfl ?_
    refine RO.opgv (v' := .d (encL _)) rfl (opv_move rfl) rfl ?_
    refine RO.opgv (v' := .d (.bool true)) rfl (opv_nenil rfl rfl rfl) rfl ?_
    refine RO.opv (v' := .d (.bool true)) (opv_pick rfl rfl) rfl ?_
    refine RO.opv (v' := .d (.bool true)) (opv_assign rfl) rfl ?_
    refine RO.nil ?_
    refine Runs.ret ?_
    refine thenQ_ret ?_
    refine EndQ.tmp (.inr rfl) rfl rfl 0 (by exact Nat.le_refl _) (by exact Nat.zero_le _) trivial ⟨?_, rfl⟩
    rfl
  · try simp only [decide_eq_true_eq, decide_eq_false_iff_not, beq_iff_eq, beq_eq_false_iff_ne, bne_iff_ne, bne_eq_false_iff_eq, Int.not_lt, Int.not_le, ne_eq, Bool.not_eq_true', Bool.not_eq_false', gt_iff_lt, ge_iff_le] at h1
    refine RD.opgv (v' := .d (enc _)) rfl (opv_load_term rfl rfl rfl) rfl ?_
    refine RD.opgv (v' := .d (encL _)) rfl (opv_move rfl) rfl ?_
    refine RD.opgv (v' := .d (.int _ _)) rfl (opv_callF (llen_fn (C k)) rfl rfl rfl trivial) rfl ?_
    refine RD.opgv (v' := .d (.int _ _)) rfl (opv_callF (check_fn t ((C k).n : Nat) (by omega)) rfl rfl rfl trivial) rfl ?_
    refine RD.opgv (v' := .d (.bool _)) rfl (opv_bin rfl rfl rfl) rfl ?_
    refine RD.opc (opv_pick rfl rfl) (fun h2 => ?_) (fun h2 => ?_)
    · try simp only [decide_eq_true_eq, decide_eq_false_iff_not, beq_iff_eq, beq_eq_false_iff_ne, bne_iff_ne, bne_eq_false_iff_eq, Int.not_lt, Int.not_le, ne_eq, Bool.not_eq_true', Bool.not_eq_false', gt_iff_lt, ge_iff_le] at h2
      skip
      refine RD.nil ?_
      refine thenQ_normal ?_
      refine Runs.condT rfl ?_
      refine Runs.has [(2, .d (.int _ _)), (3, .d (.int _ _)), (5, .ref 0 0), (8, .d (.bool false)), (9, .d (.bool true)), (10, .d (encL _))] ⟨rfl, rfl, rfl, rfl, rfl, rfl, trivial⟩ ?_
      refine Runs.rseq ?_
      refine RO.opv (v' := .d (.bool true)) (opv_move rfl) rfl ?_
      refine RO.opv (v' := .d (.bool true)) (opv_move rfl) rfl ?_
      refine RO.opgv (v' := .d (encL _)) rfl (opv_move rfl) rfl ?_
      refine RO.opgv (v' := .d (.bool true)) rfl (opv_nenil rfl rfl rfl) rfl ?_
      refine RO.opv (v' := .d (.bool true)) (opv_pick rfl rfl) rfl ?_
      refine RO.opv (v' := .d (.bool true)) (opv_assign rfl) rfl ?_
      refine RO.nil ?_
      refine Runs.ret ?_
      refine thenQ_ret ?_
      refine EndQ.tmp (.inr rfl) rfl rfl 0 (by exact Nat.le_refl _) (by exact Nat.zero_le _) trivial ⟨?_, rfl⟩
      rfl
    · try simp only [decide_eq_true_eq, decide_eq_false_iff_not, beq_iff_eq, beq_eq_false_iff_ne, bne_iff_ne, bne_eq_false_iff_eq, Int.not_lt, Int.not_le, ne_eq, Bool.not_eq_true', Bool.not_eq_false', gt_iff_lt, ge_iff_le] at h2
      have hf := fine_check h2
      refine RD.nil ?_
      refine thenQ_normal ?_
      refine Runs.condF rfl ?_
      refine Runs.skip ?_
      refine thenQ_normal ?_
      refine Runs.has [(2, .d (.int _ _)), (3, .d (.int _ _)), (5, .ref 0 0), (8, .d (.bool false)), (9, .d (.bool true)), (10, .d (encL _))] ⟨rfl, rfl, rfl, rfl, rfl, rfl, trivial⟩ ?_
      refine Runs.rseq ?_
      refine RO.opv (v' := .d (.int _ _)) (opv_move rfl) rfl ?_
      refine RO.opv (v' := .d (.int _ _)) (opv_conv (r := a) rfl (wrap64 (by omega) (by omega))) rfl ?_
      refine RO.opv (v' := .d (encL _)) (opv_move rfl) rfl ?_
      refine RO.opv (v' := .d (.int _ _)) (opv_callF (llen_fn (C k)) rfl rfl rfl trivial) rfl ?_
      refine RO.opv (v' := .d (.int _ _)) (opv_arith (r := x) rfl rfl (by simp only [binD, if_true]; rw [if_neg (by omega), x0])) rfl ?_
      refine RO.opv (v' := .d (.int _ _)) (opv_assign rfl) rfl ?_
      refine RO.nil ?_
      refine Runs.has [(3, .d (.int _ _)), (5, .ref 0 0), (8, .d (.bool false)), (9, .d (.bool true)), (10, .d (encL _)), (11, .d (.int _ _))] ⟨rfl, rfl, rfl, rfl, rfl, rfl, trivial⟩ ?_
      refine Runs.rseq ?_
      refine RO.opv (v' := .d (.int _ _)) (opv_move rfl) rfl ?_
      refine RO.opv (v' := .d (.int _ _)) (opv_conv (r := b) rfl (wrap64 (by omega) (by omega))) rfl ?_
      refine RO.opv (v' := .d (encL _)) (opv_move rfl) rfl ?_
      refine RO.opv (v' := .d (.int _ _)) (opv_callF (llen_fn (C k)) rfl rfl rfl trivial) rfl ?_
      refine RO.opv (v' := .d (.int _ _)) (opv_arith (r := y) rfl rfl (by simp only [binD, if_true]; rw [if_neg (by omega), y0])) rfl ?_
      refine RO.opv (v' := .d (.int _ _)) (opv_assign rfl) rfl ?_
      refine RO.nil ?_
      refine Runs.has [(5, .ref 0 0), (8, .d (.bool false)), (9, .d (.bool true)), (10, .d (encL _)), (11, .d (.int _ _)), (12, .d (.int _ _))] ⟨rfl, rfl, rfl, rfl, rfl, rfl, trivial⟩ ?_
      refine Runs.rseq ?_
      refine RO.opv (v' := .d (encL _)) (opv_move rfl) rfl ?_
      refine RO.opv (v' := .d (enc _)) (opv_load_term rfl rfl rfl) rfl ?_
      refine RO.opv (opv_callF (sopen_fn (C k) (C_ok hk) t (by omega)) rfl rfl rfl ⟨trivial, trivial, trivial⟩) rfl ?_
      refine RO.opv (opv_move rfl) rfl ?_
      refine RO.opv (v' := .d (enc _)) (opv_extract rfl rfl) rfl ?_
      refine RO.opv (v' := .d (.int _ _)) (opv_extract rfl rfl) rfl ?_
      refine RO.opn (v' := .ref 1 0) (O' := [_, _]) (opv_alloc) rfl rfl ?_
      refine RO.op0n (O' := [_, _]) (opv_store_term rfl rfl rfl (Nat.le_of_ble_eq_true rfl)) rfl ?_
      refine RO.opv (v' := .d (.int _ _)) (opv_assign rfl) rfl ?_
      refine RO.nil ?_
      refine Runs.has [(5, .ref 0 0), (8, .d (.bool false)), (9, .d (.bool true)), (10, .d (encL _)), (11, .d (.int _ _)), (12, .d (.int _ _)), (13, .ref 1 0), (14, .d (.int _ _))] ⟨rfl, rfl, rfl, rfl, rfl, rfl, rfl, rfl, trivial⟩ ?_
      refine Runs.rseq ?_
      refine RO.opv (v' := .d (encL _)) (opv_move rfl) rfl ?_
      refine RO.opv (v' := .d (enc _)) (opv_load_term rfl rfl rfl) rfl ?_
      refine RO.opv (v' := .d (.int _ _)) (opv_move rfl) rfl ?_
      refine RO.opv (v' := .d (enc _)) (opv_callF (putS_fn _ _) rfl rfl rfl trivial) rfl ?_
      refine RO.opv (v' := .d (.int _ _)) (opv_move rfl) rfl ?_
      refine RO.opv (v' := .d (enc _)) (opv_callF (putS_fn _ _) rfl rfl rfl trivial) rfl ?_
      refine RO.opv (opv_callF (sopen_fn (C k) (C_ok hk) (putS (putS t x) y) (by omega)) rfl rfl rfl ⟨trivial, trivial, trivial⟩) rfl ?_
      refine RO.opv (opv_move rfl) rfl ?_
      refine RO.opv (v' := .d (enc _)) (opv_extract rfl rfl) rfl ?_
      refine RO.opv (v' := .d (.int _ _)) (opv_extract rfl rfl) rfl ?_
      refine RO.opn (v' := .ref 2 0) (O' := [_, _, _]) (opv_alloc) rfl rfl ?_
      refine RO.op0n (O' := [_, _, _]) (opv_store_term rfl rfl rfl (Nat.le_of_ble_eq_true rfl)) rfl ?_
      refine RO.opv (v' := .d (.int _ _)) (opv_assign rfl) rfl ?_
      refine RO.nil ?_
      refine Runs.has [(5, .ref 0 0), (8, .d (.bool false)), (9, .d (.bool true)), (10, .d (encL _)), (11, .d (.int _ _)), (12, .d (.int _ _)), (13, .ref 1 0), (14, .d (.int _ _)), (15, .ref 2 0), (16, .d (.int _ _))] ⟨rfl, rfl, rfl, rfl, rfl, rfl, rfl, rfl, rfl, rfl, trivial⟩ ?_
      refine Runs.seq ?_
      refine Runs.drawn (by kernel_rfl) [0] [true, true, true, true, true, true, true, true, true, true, true, false, false, false] [false, false, false, false, false, false, false, false, false, false, false, true, true, false] (by decide +kernel) ?_
      refine RD.opa (v' := .d (encL _)) (fun O' hkeep => opv_move rfl) rfl ?_
      refine RD.opa (v' := .d (enc _)) (fun O' hkeep => opv_load_term rfl (hkeep.1.trans rfl) rfl) rfl ?_
      refine RD.opa (v' := .d (encL _)) (fun O' hkeep => opv_move rfl) rfl ?_
      refine RD.opa (v' := .d (.int _ _)) (fun O' hkeep => opv_move rfl) rfl ?_
      refine RD.opa (v' := .d (.int _ _)) (fun O' hkeep => opv_move rfl) rfl ?_
      refine RD.opa (v' := .d (.int _ _)) (fun O' hkeep => opv_callF (ljoin_fn (C k) (C_ok hk) _ _) rfl rfl rfl trivial) rfl ?_
      refine RD.opa (v' := .d (enc _)) (fun O' hkeep => opv_callF (putS_fn _ _) rfl rfl rfl trivial) rfl ?_
      refine RD.opa (fun O' hkeep => opv_callF (sopen_fn (C k) (C_ok hk) (putS t ((C k).join x y)) (by omega)) rfl rfl rfl ⟨trivial, trivial, trivial⟩) rfl ?_
      refine RD.opa (fun O' hkeep => opv_move rfl) rfl ?_
      refine RD.opa (v' := .d (enc _)) (fun O' hkeep => opv_extract rfl rfl) rfl ?_
      refine RD.opa (v' := .d (.int _ _)) (fun O' hkeep => opv_extract rfl rfl) rfl ?_
      refine RD.opn (v' := .ref 3 0) (O' := [_, _, _, _]) (opv_alloc) rfl rfl ⟨rfl, trivial⟩ ?_
      refine RD.op0n (O' := [_, _, _, _]) (opv_store_term rfl rfl rfl (Nat.le_of_ble_eq_true rfl)) rfl ⟨rfl, trivial⟩ ?_
      refine RD.opv (v' := .d (.int _ _)) (opv_assign rfl) rfl ?_
      refine RD.nil ?_
      refine thenQ_normal ?_
      refine Runs.has [(5, .ref 0 0), (8, .d (.bool false)), (9, .d (.bool true)), (10, .d (encL _)), (11, .d (.int _ _)), (12, .d (.int _ _)), (13, .ref 1 0), (14, .d (.int _ _)), (15, .ref 2 0), (16, .d (.int _ _)), (17, .ref 3 0), (18, .d (.int _ _))] ⟨rfl, rfl, rfl, rfl, rfl, rfl, rfl, rfl, rfl, rfl, rfl, rfl, trivial⟩ ?_
      refine Runs.seq ?_
      refine Runs.has [(5, .ref 0 0), (8, .d (.bool false)), (9, .d (.bool true)), (10, .d (encL _)), (11, .d (.int _ _)), (12, .d (.int _ _)), (13, .ref 1 0), (14, .d (.int _ _)), (15, .ref 2 0), (16, .d (.int _ _)), (17, .ref 3 0), (18, .d (.int _ _))] ⟨rfl, rfl, rfl, rfl, rfl, rfl, rfl, rfl, rfl, rfl, rfl, rfl, trivial⟩ ?_
      refine Runs.rseq ?_
      refine RO.opv (v' := .ref 0 0) (opv_field_ref rfl rfl) rfl ?_
      refine RO.opv (v' := .d (.int _ _)) (opv_load_ref rfl rfl rfl) rfl ?_
      refine RO.opv (v' := .d (.bool _)) (opv_bin rfl rfl rfl) rfl ?_
      refine RO.opc (opv_move rfl) (fun h3 => ?_) (fun h3 => ?_)
      · try simp only [decide_eq_true_eq, decide_eq_false_iff_not, beq_iff_eq, beq_eq_false_iff_ne, bne_iff_ne, bne_eq_false_iff_eq, Int.not_lt, Int.not_le, ne_eq, Bool.not_eq_true', Bool.not_eq_false', gt_iff_lt, ge_iff_le] at h3
        have hk4 := h3
        refine RO.opgv (v' := .d (.int _ _)) rfl (opv_move rfl) rfl ?_
        refine RO.opgv (v' := .d (encL _)) rfl (opv_move rfl) rfl ?_
        refine RO.opgv (v' := .d (.int _ _)) rfl (opv_callF (lbot_fn (C k) (C_ok hk)) rfl rfl rfl trivial) rfl ?_
        refine RO.opgv (v' := .d (.bool _)) rfl (opv_bin rfl rfl rfl) rfl ?_
        refine RO.opgc rfl (opv_move rfl) (fun h4 => ?_) (fun h4 => ?_)
        · try simp only [decide_eq_true_eq, decide_eq_false_iff_not, beq_iff_eq, beq_eq_false_iff_ne, bne_iff_ne, bne_eq_false_iff_eq, Int.not_lt, Int.not_le, ne_eq, Bool.not_eq_true', Bool.not_eq_false', gt_iff_lt, ge_iff_le] at h4
          rw [sopen_no hk4] at h4; exact absurd rfl h4
        · try simp only [decide_eq_true_eq, decide_eq_false_iff_not, beq_iff_eq, beq_eq_false_iff_ne, bne_iff_ne, bne_eq_false_iff_eq, Int.not_lt, Int.not_le, ne_eq, Bool.not_eq_true', Bool.not_eq_false', gt_iff_lt, ge_iff_le] at h4
          refine RO.opgv (v' := .d (enc _)) rfl (opv_load_term rfl rfl rfl) rfl ?_
          refine RO.opgv (v' := .d (enc _)) rfl (opv_load_term rfl rfl rfl) rfl ?_
          refine RO.opgv (v' := .d (.bool _)) rfl (opv_callF (same_fn (sopen (C k) t).1 t (by omega) (by omega)) rfl rfl rfl trivial) rfl ?_
          refine RO.opgv (v' := .d (.bool _)) rfl (opv_not rfl rfl) rfl ?_
          refine RO.opgv (v' := .d (.bool _)) rfl (opv_pick rfl rfl) rfl ?_
          refine RO.opc (opv_pick rfl rfl) (fun h5 => ?_) (fun h5 => ?_)
          · try simp only [decide_eq_true_eq, decide_eq_false_iff_not, beq_iff_eq, beq_eq_false_iff_ne, bne_iff_ne, bne_eq_false_iff_eq, Int.not_lt, Int.not_le, ne_eq, Bool.not_eq_true', Bool.not_eq_false', gt_iff_lt, ge_iff_le] at h5
            rw [sopen_no hk4, same_refl] at h5; cases h5
          · try simp only [decide_eq_true_eq, decide_eq_false_iff_not, beq_iff_eq, beq_eq_false_iff_ne, bne_iff_ne, bne_eq_false_iff_eq, Int.not_lt, Int.not_le, ne_eq, Bool.not_eq_true', Bool.not_eq_false', gt_iff_lt, ge_iff_le] at h5
            refine RO.nil ?_
            refine Runs.condF rfl ?_
            refine Runs.skip ?_
            refine thenQ_normal ?_
            refine Runs.has [(8, .d (.bool false)), (9, .d (.bool true)), (10, .d (encL _)), (11, .d (.int _ _)), (12, .d (.int _ _)), (13, .ref 1 0), (14, .d (.int _ _)), (15, .ref 2 0), (16, .d (.int _ _)), (17, .ref 3 0), (18, .d (.int _ _))] ⟨rfl, rfl, rfl, rfl, rfl, rfl, rfl, rfl, rfl, rfl, rfl, trivial⟩ ?_
            refine Runs.rseq ?_
            refine RO.opv (v' := .d (.bool true)) (opv_move rfl) rfl ?_
            refine RO.opv (v' := .d (.bool true)) (opv_move rfl) rfl ?_
            refine RO.opgv (v' := .d (.int _ _)) rfl (opv_move rfl) rfl ?_
            refine RO.opgv (v' := .d (.int _ _)) rfl (opv_move rfl) rfl ?_
            refine RO.opgv (v' := .d (.bool _)) rfl (opv_bin rfl rfl rfl) rfl ?_
            refine RO.opv (v' := .d (.bool _)) (opv_pick rfl rfl) rfl ?_
            refine RO.opc (opv_move rfl) (fun h6 => ?_) (fun h6 => ?_)
            · try simp only [decide_eq_true_eq, decide_eq_false_iff_not, beq_iff_eq, beq_eq_false_iff_ne, bne_iff_ne, bne_eq_false_iff_eq, Int.not_lt, Int.not_le, ne_eq, Bool.not_eq_true', Bool.not_eq_false', gt_iff_lt, ge_iff_le] at h6
              refine RO.opgv (v' := .d (enc _)) rfl (opv_load_term rfl rfl rfl) rfl ?_
              refine RO.opgv (v' := .d (enc _)) rfl (opv_load_term rfl rfl rfl) rfl ?_
              refine RO.opgv (v' := .d (.bool _)) rfl (opv_callF (same_fn (sopen (C k) (putS (putS t x) y)).1 (sopen (C k) (putS t ((C k).join x y))).1 (by omega) (by omega)) rfl rfl rfl trivial) rfl ?_
              refine RO.opv (v' := .d (.bool _)) (opv_pick rfl rfl) rfl ?_
              refine RO.opc (opv_move rfl) (fun h7 => ?_) (fun h7 => ?_)
              · try simp only [decide_eq_true_eq, decide_eq_false_iff_not, beq_iff_eq, beq_eq_false_iff_ne, bne_iff_ne, bne_eq_false_iff_eq, Int.not_lt, Int.not_le, ne_eq, Bool.not_eq_true', Bool.not_eq_false', gt_iff_lt, ge_iff_le] at h7
                refine RO.opgv (v' := .d (.int _ _)) rfl (opv_move rfl) rfl ?_
                refine RO.opgv (v' := .d (encL _)) rfl (opv_move rfl) rfl ?_
                refine RO.opgv (v' := .d (.int _ _)) rfl (opv_move rfl) rfl ?_
                refine RO.opgv (v' := .d (encL _)) rfl (opv_move rfl) rfl ?_
                refine RO.opgv (v' := .d (.int _ _)) rfl (opv_move rfl) rfl ?_
                refine RO.opgv (v' := .d (.int _ _)) rfl (opv_move rfl) rfl ?_
                refine RO.opgv (v' := .d (.int _ _)) rfl (opv_callF (ljoin_fn (C k) (C_ok hk) _ _) rfl rfl rfl trivial) rfl ?_
                refine RO.opgv (v' := .d (.int _ _)) rfl (opv_callF (ljoin_fn (C k) (C_ok hk) _ _) rfl rfl rfl trivial) rfl ?_
                refine RO.opgv (v' := .d (.bool _)) rfl (opv_bin rfl rfl rfl) rfl ?_
                refine RO.opv (v' := .d (.bool _)) (opv_pick rfl rfl) rfl ?_
                refine RO.opc (opv_move rfl) (fun h8 => ?_) (fun h8 => ?_)
                · try simp only [decide_eq_true_eq, decide_eq_false_iff_not, beq_iff_eq, beq_eq_false_iff_ne, bne_iff_ne, bne_eq_false_iff_eq, Int.not_lt, Int.not_le, ne_eq, Bool.not_eq_true', Bool.not_eq_false', gt_iff_lt, ge_iff_le] at h8
                  refine RO.opgv (v' := .ref 2 0) rfl (opv_field_ref rfl rfl) rfl ?_
                  refine RO.opgv (v' := .d (.int _ _)) rfl (opv_load_ref rfl rfl rfl) rfl ?_
                  refine RO.opgv (v' := .ref 1 0) rfl (opv_field_ref rfl rfl) rfl ?_
                  refine RO.opgv (v' := .d (.int _ _)) rfl (opv_load_ref rfl rfl rfl) rfl ?_
                  refine RO.opgv (v' := .d (.bool _)) rfl (opv_bin rfl rfl rfl) rfl ?_
                  refine RO.opv (v' := .d (.bool _)) (opv_pick rfl rfl) rfl ?_
                  refine RO.opc (opv_move rfl) (fun h9 => ?_) (fun h9 => ?_)
                  · try simp only [decide_eq_true_eq, decide_eq_false_iff_not, beq_iff_eq, beq_eq_false_iff_ne, bne_iff_ne, bne_eq_false_iff_eq, Int.not_lt, Int.not_le, ne_eq, Bool.not_eq_true', Bool.not_eq_false', gt_iff_lt, ge_iff_le] at h9
                    refine RO.opgv (v' := .ref 2 2) rfl (opv_field_ref rfl rfl) rfl ?_
                    refine RO.opgv (v' := .d (.str _)) rfl (opv_load_ref rfl rfl rfl) rfl ?_
                    refine RO.opgv (v' := .ref 1 2) rfl (opv_field_ref rfl rfl) rfl ?_
                    refine RO.opgv (v' := .d (.str _)) rfl (opv_load_ref rfl rfl rfl) rfl ?_
                    refine RO.opgv (v' := .d (.bool _)) rfl (opv_bin rfl rfl rfl) rfl ?_
                    refine RO.opv (v' := .d (.bool _)) (opv_pick rfl rfl) rfl ?_
                    refine RO.opc (opv_move rfl) (fun h10 => ?_) (fun h10 => ?_)
                    · try simp only [decide_eq_true_eq, decide_eq_false_iff_not, beq_iff_eq, beq_eq_false_iff_ne, bne_iff_ne, bne_eq_false_iff_eq, Int.not_lt, Int.not_le, ne_eq, Bool.not_eq_true', Bool.not_eq_false', gt_iff_lt, ge_iff_le] at h10
                      refine RO.opgv (v' := .ref 2 3) rfl (opv_field_ref rfl rfl) rfl ?_
                      refine RO.opgv (v' := .d (.list (encs _))) rfl (opv_load_ref rfl rfl rfl) rfl ?_
                      refine RO.opgv (v' := .d (.int _ _)) rfl (opv_len_terms rfl) rfl ?_
                      refine RO.opgv (v' := .ref 1 3) rfl (opv_field_ref rfl rfl) rfl ?_
                      refine RO.opgv (v' := .d (.list (encs _))) rfl (opv_load_ref rfl rfl rfl) rfl ?_
                      refine RO.opgv (v' := .d (.int _ _)) rfl (opv_len_terms rfl) rfl ?_
                      refine RO.opgv (v' := .d (.bool _)) rfl (opv_bin rfl rfl rfl) rfl ?_
                      refine RO.opv (v' := .d (.bool _)) (opv_pick rfl rfl) rfl ?_
                      refine RO.opv (v' := .d (.bool _)) (opv_assign rfl) rfl ?_
                      refine RO.nil ?_
                      refine Runs.ret ?_
                      refine EndQ.tmp (.inr rfl) rfl rfl 0 (by exact Nat.le_refl _) (by exact Nat.zero_le _) trivial ⟨?_, rfl⟩
                      refine bool_eq ?_; rw [e1, e3.2.2.1]; simp [Term.kids, puts4_len]
                    · try simp only [decide_eq_true_eq, decide_eq_false_iff_not, beq_iff_eq, beq_eq_false_iff_ne, bne_iff_ne, bne_eq_false_iff_eq, Int.not_lt, Int.not_le, ne_eq, Bool.not_eq_true', Bool.not_eq_false', gt_iff_lt, ge_iff_le] at h10
                      rw [e1, e3.2.1] at h10; exact absurd rfl h10
                  · try simp only [decide_eq_true_eq, decide_eq_false_iff_not, beq_iff_eq, beq_eq_false_iff_ne, bne_iff_ne, bne_eq_false_iff_eq, Int.not_lt, Int.not_le, ne_eq, Bool.not_eq_true', Bool.not_eq_false', gt_iff_lt, ge_iff_le] at h9
                    rw [e1, e3.1] at h9; exact absurd rfl h9
                · try simp only [decide_eq_true_eq, decide_eq_false_iff_not, beq_iff_eq, beq_eq_false_iff_ne, bne_iff_ne, bne_eq_false_iff_eq, Int.not_lt, Int.not_le, ne_eq, Bool.not_eq_true', Bool.not_eq_false', gt_iff_lt, ge_iff_le] at h8
                  rw [e1, e3.2.2.2, hj, C_join hk hm.1 hm.2.1 (by omega) (by omega)] at h8; exact absurd (by simp only []; omega) h8
              · try simp only [decide_eq_true_eq, decide_eq_false_iff_not, beq_iff_eq, beq_eq_false_iff_ne, bne_iff_ne, bne_eq_false_iff_eq, Int.not_lt, Int.not_le, ne_eq, Bool.not_eq_true', Bool.not_eq_false', gt_iff_lt, ge_iff_le] at h7
                rw [e1, hj, e2, same_refl] at h7; cases h7
            · try simp only [decide_eq_true_eq, decide_eq_false_iff_not, beq_iff_eq, beq_eq_false_iff_ne, bne_iff_ne, bne_eq_false_iff_eq, Int.not_lt, Int.not_le, ne_eq, Bool.not_eq_true', Bool.not_eq_false', gt_iff_lt, ge_iff_le] at h6
              rw [e1, hj, e2] at h6; exact absurd rfl h6
      · try simp only [decide_eq_true_eq, decide_eq_false_iff_not, beq_iff_eq, beq_eq_false_iff_ne, bne_iff_ne, bne_eq_false_iff_eq, Int.not_lt, Int.not_le, ne_eq, Bool.not_eq_true', Bool.not_eq_false', gt_iff_lt, ge_iff_le] at h3
        have hk4 := h3
        refine RO.off rfl ?_
        refine RO.off rfl ?_
        refine RO.off rfl ?_
        refine RO.off rfl ?_
        refine RO.off rfl ?_
        refine RO.off rfl ?_
        refine RO.off rfl ?_
        refine RO.off rfl ?_
        refine RO.off rfl ?_
        refine RO.off rfl ?_
        refine RO.opv (v' := .d (.bool false)) (opv_pick rfl rfl) rfl ?_
        refine RO.nil ?_
        refine Runs.condF rfl ?_
        refine Runs.skip ?_
        refine thenQ_normal ?_
        refine Runs.has [(8, .d (.bool false)), (9, .d (.bool true)), (10, .d (encL _)), (11, .d (.int _ _)), (12, .d (.int _ _)), (13, .ref 1 0), (14, .d (.int _ _)), (15, .ref 2 0), (16, .d (.int _ _)), (17, .ref 3 0), (18, .d (.int _ _))] ⟨rfl, rfl, rfl, rfl, rfl, rfl, rfl, rfl, rfl, rfl, rfl, trivial⟩ ?_
        refine Runs.rseq ?_
        refine RO.opv (v' := .d (.bool true)) (opv_move rfl) rfl ?_
        refine RO.opv (v' := .d (.bool true)) (opv_move rfl) rfl ?_
        refine RO.opgv (v' := .d (.int _ _)) rfl (opv_move rfl) rfl ?_
        refine RO.opgv (v' := .d (.int _ _)) rfl (opv_move rfl) rfl ?_
        refine RO.opgv (v' := .d (.bool _)) rfl (opv_bin rfl rfl rfl) rfl ?_
        refine RO.opv (v' := .d (.bool _)) (opv_pick rfl rfl) rfl ?_
        refine RO.opc (opv_move rfl) (fun h11 => ?_) (fun h11 => ?_)
        · try simp only [decide_eq_true_eq, decide_eq_false_iff_not, beq_iff_eq, beq_eq_false_iff_ne, bne_iff_ne, bne_eq_false_iff_eq, Int.not_lt, Int.not_le, ne_eq, Bool.not_eq_true', Bool.not_eq_false', gt_iff_lt, ge_iff_le] at h11
          refine RO.opgv (v' := .d (enc _)) rfl (opv_load_term rfl rfl rfl) rfl ?_
          refine RO.opgv (v' := .d (enc _)) rfl (opv_load_term rfl rfl rfl) rfl ?_
          refine RO.opgv (v' := .d (.bool _)) rfl (opv_callF (same_fn (sopen (C k) (putS (putS t x) y)).1 (sopen (C k) (putS t ((C k).join x y))).1 (by omega) (by omega)) rfl rfl rfl trivial) rfl ?_
          refine RO.opv (v' := .d (.bool _)) (opv_pick rfl rfl) rfl ?_
          refine RO.opc (opv_move rfl) (fun h12 => ?_) (fun h12 => ?_)
          · try simp only [decide_eq_true_eq, decide_eq_false_iff_not, beq_iff_eq, beq_eq_false_iff_ne, bne_iff_ne, bne_eq_false_iff_eq, Int.not_lt, Int.not_le, ne_eq, Bool.not_eq_true', Bool.not_eq_false', gt_iff_lt, ge_iff_le] at h12
            refine RO.opgv (v' := .d (.int _ _)) rfl (opv_move rfl) rfl ?_
            refine RO.opgv (v' := .d (encL _)) rfl (opv_move rfl) rfl ?_
            refine RO.opgv (v' := .d (.int _ _)) rfl (opv_move rfl) rfl ?_
            refine RO.opgv (v' := .d (encL _)) rfl (opv_move rfl) rfl ?_
            refine RO.opgv (v' := .d (.int _ _)) rfl (opv_move rfl) rfl ?_
            refine RO.opgv (v' := .d (.int _ _)) rfl (opv_move rfl) rfl ?_
            refine RO.opgv (v' := .d (.int _ _)) rfl (opv_callF (ljoin_fn (C k) (C_ok hk) _ _) rfl rfl rfl trivial) rfl ?_
            refine RO.opgv (v' := .d (.int _ _)) rfl (opv_callF (ljoin_fn (C k) (C_ok hk) _ _) rfl rfl rfl trivial) rfl ?_
            refine RO.opgv (v' := .d (.bool _)) rfl (opv_bin rfl rfl rfl) rfl ?_
            refine RO.opv (v' := .d (.bool _)) (opv_pick rfl rfl) rfl ?_
            refine RO.opc (opv_move rfl) (fun h13 => ?_) (fun h13 => ?_)
            · try simp only [decide_eq_true_eq, decide_eq_false_iff_not, beq_iff_eq, beq_eq_false_iff_ne, bne_iff_ne, bne_eq_false_iff_eq, Int.not_lt, Int.not_le, ne_eq, Bool.not_eq_true', Bool.not_eq_false', gt_iff_lt, ge_iff_le] at h13
              refine RO.opgv (v' := .ref 2 0) rfl (opv_field_ref rfl rfl) rfl ?_
              refine RO.opgv (v' := .d (.int _ _)) rfl (opv_load_ref rfl rfl rfl) rfl ?_
              refine RO.opgv (v' := .ref 1 0) rfl (opv_field_ref rfl rfl) rfl ?_
              refine RO.opgv (v' := .d (.int _ _)) rfl (opv_load_ref rfl rfl rfl) rfl ?_
              refine RO.opgv (v' := .d (.bool _)) rfl (opv_bin rfl rfl rfl) rfl ?_
              refine RO.opv (v' := .d (.bool _)) (opv_pick rfl rfl) rfl ?_
              refine RO.opc (opv_move rfl) (fun h14 => ?_) (fun h14 => ?_)
              · try simp only [decide_eq_true_eq, decide_eq_false_iff_not, beq_iff_eq, beq_eq_false_iff_ne, bne_iff_ne, bne_eq_false_iff_eq, Int.not_lt, Int.not_le, ne_eq, Bool.not_eq_true', Bool.not_eq_false', gt_iff_lt, ge_iff_le] at h14
                refine RO.opgv (v' := .ref 2 2) rfl (opv_field_ref rfl rfl) rfl ?_
                refine RO.opgv (v' := .d (.str _)) rfl (opv_load_ref rfl rfl rfl) rfl ?_
                refine RO.opgv (v' := .ref 1 2) rfl (opv_field_ref rfl rfl) rfl ?_
                refine RO.opgv (v' := .d (.str _)) rfl (opv_load_ref rfl rfl rfl) rfl ?_
                refine RO.opgv (v' := .d (.bool _)) rfl (opv_bin rfl rfl rfl) rfl ?_
                refine RO.opv (v' := .d (.bool _)) (opv_pick rfl rfl) rfl ?_
                refine RO.opc (opv_move rfl) (fun h15 => ?_) (fun h15 => ?_)
                · try simp only [decide_eq_true_eq, decide_eq_false_iff_not, beq_iff_eq, beq_eq_false_iff_ne, bne_iff_ne, bne_eq_false_iff_eq, Int.not_lt, Int.not_le, ne_eq, Bool.not_eq_true', Bool.not_eq_false', gt_iff_lt, ge_iff_le] at h15
                  refine RO.opgv (v' := .ref 2 3) rfl (opv_field_ref rfl rfl) rfl ?_
                  refine RO.opgv (v' := .d (.list (encs _))) rfl (opv_load_ref rfl rfl rfl) rfl ?_
                  refine RO.opgv (v' := .d (.int _ _)) rfl (opv_len_terms rfl) rfl ?_
                  refine RO.opgv (v' := .ref 1 3) rfl (opv_field_ref rfl rfl) rfl ?_
                  refine RO.opgv (v' := .d (.list (encs _))) rfl (opv_load_ref rfl rfl rfl) rfl ?_
                  refine RO.opgv (v' := .d (.int _ _)) rfl (opv_len_terms rfl) rfl ?_
                  refine RO.opgv (v' := .d (.bool _)) rfl (opv_bin rfl rfl rfl) rfl ?_
                  refine RO.opv (v' := .d (.bool _)) (opv_pick rfl rfl) rfl ?_
                  refine RO.opv (v' := .d (.bool _)) (opv_assign rfl) rfl ?_
                  refine RO.nil ?_
                  refine Runs.ret ?_
                  refine EndQ.tmp (.inr rfl) rfl rfl 0 (by exact Nat.le_refl _) (by exact Nat.zero_le _) trivial ⟨?_, rfl⟩
                  refine bool_eq ?_; rw [e1, e3.2.2.1]; simp [Term.kids, puts4_len]
                · try simp only [decide_eq_true_eq, decide_eq_false_iff_not, beq_iff_eq, beq_eq_false_iff_ne, bne_iff_ne, bne_eq_false_iff_eq, Int.not_lt, Int.not_le, ne_eq, Bool.not_eq_true', Bool.not_eq_false', gt_iff_lt, ge_iff_le] at h15
                  rw [e1, e3.2.1] at h15; exact absurd rfl h15
              · try simp only [decide_eq_true_eq, decide_eq_false_iff_not, beq_iff_eq, beq_eq_false_iff_ne, bne_iff_ne, bne_eq_false_iff_eq, Int.not_lt, Int.not_le, ne_eq, Bool.not_eq_true', Bool.not_eq_false', gt_iff_lt, ge_iff_le] at h14
                rw [e1, e3.1] at h14; exact absurd rfl h14
            · try simp only [decide_eq_true_eq, decide_eq_false_iff_not, beq_iff_eq, beq_eq_false_iff_ne, bne_iff_ne, bne_eq_false_iff_eq, Int.not_lt, Int.not_le, ne_eq, Bool.not_eq_true', Bool.not_eq_false', gt_iff_lt, ge_iff_le] at h13
              rw [e1, e3.2.2.2, hj, C_join hk hm.1 hm.2.1 (by omega) (by omega)] at h13; exact absurd (by simp only []; omega) h13
          · try simp only [decide_eq_true_eq, decide_eq_false_iff_not, beq_iff_eq, beq_eq_false_iff_ne, bne_iff_ne, bne_eq_false_iff_eq, Int.not_lt, Int.not_le, ne_eq, Bool.not_eq_true', Bool.not_eq_false', gt_iff_lt, ge_iff_le] at h12
            rw [e1, hj, e2, same_refl] at h12; cases h12
        · try simp only [decide_eq_true_eq, decide_eq_false_iff_not, beq_iff_eq, beq_eq_false_iff_ne, bne_iff_ne, bne_eq_false_iff_eq, Int.not_lt, Int.not_le, ne_eq, Bool.not_eq_true', Bool.not_eq_false', gt_iff_lt, ge_iff_le] at h11
          rw [e1, hj, e2] at h11; exact absurd rfl h11
end Go.Proofs.Ytklnjmnpkelnkaa.AM
