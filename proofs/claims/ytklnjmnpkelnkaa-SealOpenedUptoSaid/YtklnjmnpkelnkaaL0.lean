import Derived.Test.YtklnjmnpkelnkaaHg
import Derived.Test.YtklnjmnpkelnkaaF3
namespace Go.Proofs.Ytklnjmnpkelnkaa.AM
open Go
set_option linter.unusedVariables false
set_option linter.unusedSimpArgs false
theorem chain_fn (k : Nat) (hk : k < 16) : Fn Try.prog 10 [.d (.int .i64 ((k + 1 : Nat) : Int))] [] (.d (encL (C k))) [] := by
  refine Does.run Try.func10 rfl Try.ntmps10 rfl fun K hK => ?_
  refine Runs.rseq ?_
  refine RO.opv (v' := .d .nilp) (opv_assign rfl) rfl ?_
  refine RO.nil ?_
  refine Runs.rseq ?_
  refine RO.opv (v' := .nil0) (opv_assign rfl) rfl ?_
  refine RO.nil ?_
  refine Runs.seq ?_
  refine Runs.adopt 3 50 2 rfl ?_
  refine Runs.rseq ?_
  refine RO.opv (v' := .d (.int _ _)) (opv_assign rfl) rfl ?_
  refine RO.nil ?_
  refine Runs.block ?_
  refine Runs.loopC (X := Nat) (fun i => i ≤ k) (fun i => k - i) [(0, .d (.int _ _)), (2, .d .nilp)] (fun i => [(3, .own 0 (1 + i)), (4, .d (.int .i64 ((i + 1 : Nat) : Int)))]) [] (fun i => [.buf 50 2 (encPs (chainP i)) (1 + i)]) (0) ⟨rfl, rfl, trivial⟩ ⟨rfl, rfl, trivial⟩ rfl (by omega) fun i hi => ?_
  refine Runs.seq ?_
  refine Runs.rseq ?_
  refine RO.opv (v' := .d (.int _ _)) (opv_move rfl) rfl ?_
  refine RO.opv (v' := .d (.int _ _)) (opv_move rfl) rfl ?_
  refine RO.opc (opv_bin rfl rfl rfl) (fun h1 => ?_) (fun h1 => ?_)
  · try simp only [decide_eq_true_eq, decide_eq_false_iff_not, beq_iff_eq, beq_eq_false_iff_ne, bne_iff_ne, bne_eq_false_iff_eq, Int.not_lt, Int.not_le, ne_eq, Bool.not_eq_true', Bool.not_eq_false', gt_iff_lt, ge_iff_le] at h1
    have hl : i < k := by omega
    refine RO.nil ?_
    refine Runs.condT rfl ?_
    refine Runs.skip ?_
    refine thenQ_normal ?_
    refine Runs.has [(0, .d (.int _ _)), (2, .d .nilp), (3, .own 0 _), (4, .d (.int _ _))] ⟨rfl, rfl, rfl, rfl, trivial⟩ ?_
    refine Runs.seq ?_
    refine Runs.block ?_
    refine Runs.region ?_
    refine RO.opv (v' := .own 0 _) (opv_move rfl) rfl ?_
    refine RO.opv (v' := .d (.int _ _)) (opv_move rfl) rfl ?_
    refine RO.opv (v' := .d (.int _ _)) (opv_arith (r := ((i : Nat) : Int)) rfl rfl (by simp only [binD, if_true]; rw [wrap64 (by omega) (by omega)]; congr 2; omega)) rfl ?_
    refine RO.opv (v' := .d (.int _ _)) (opv_move rfl) rfl ?_
    refine RO.opv (v' := .d (encP _)) (opv_build_pair rfl rfl rfl) rfl ?_
    refine RO.opv (v' := .d (.list _)) (opv_buildSlice rfl rfl rfl rfl) rfl ?_
    refine RO.opn (v' := .own 0 _) (O' := [_]) (opv_append_own rfl rfl rfl rfl rfl rfl (by simp; rfl) (by rw [encPs_len, chainP_len]; simp; omega)) rfl rfl ?_
    refine RO.opv (v' := .own 0 _) (opv_assign rfl) rfl ?_
    refine RO.nil ?_
    refine blockQ_normal ?_
    refine thenQ_normal ?_
    refine Runs.has [(0, .d (.int _ _)), (2, .d .nilp), (3, .own 0 _), (4, .d (.int _ _))] ⟨rfl, rfl, rfl, rfl, trivial⟩ ?_
    refine Runs.region ?_
    refine RO.opv (v' := .d (.int _ _)) (opv_move rfl) rfl ?_
    refine RO.opv (v' := .d (.int _ _)) (opv_bin rfl rfl rfl) rfl ?_
    refine RO.opv (v' := .d (.int _ _)) (opv_assign rfl) rfl ?_
    refine RO.nil ?_
    refine thenQ_normal ?_
    refine ⟨i + 1, 1, (by rw [hK]; exact Nat.le_of_ble_eq_true rfl), ⟨rfl, rfl, trivial⟩, ⟨?_, ?_, trivial⟩, ?_, ?_, ?_⟩
    · rfl
    · refine int_eq ?_; rw [wrap64 (by omega) (by omega)]; omega
    · rw [chainP_succ]; rfl
    · omega
    · omega
  · try simp only [decide_eq_true_eq, decide_eq_false_iff_not, beq_iff_eq, beq_eq_false_iff_ne, bne_iff_ne, bne_eq_false_iff_eq, Int.not_lt, Int.not_le, ne_eq, Bool.not_eq_true', Bool.not_eq_false', gt_iff_lt, ge_iff_le] at h1
    have hl : i = k := by omega
    refine RO.nil ?_
    refine Runs.condF rfl ?_
    refine Runs.exit ?_
    refine thenQ_exit ?_
    refine thenQ_exit ?_
    refine blockQ_here ?_
    refine thenQ_normal ?_
    refine Runs.has [(0, .d (.int _ _)), (2, .d .nilp), (3, .own 0 _)] ⟨rfl, rfl, rfl, trivial⟩ ?_
    refine Runs.shut 3 rfl rfl ?_
    refine Runs.rseq ?_
    refine RO.opv (v' := .d (.int _ _)) (opv_move rfl) rfl ?_
    refine RO.opv (v' := .d (.list (encPs _))) (opv_move rfl) rfl ?_
    refine RO.opv (opv_callF (lnew_fn ((k + 1 : Nat) : Int) (chainP i) (by rw [chainP_len]; omega)) rfl rfl rfl ⟨trivial, trivial, trivial⟩) rfl ?_
    refine RO.opv (opv_move rfl) rfl ?_
    refine RO.opv (v' := .d (encOL _)) (opv_extract rfl rfl) rfl ?_
    refine RO.opv (v' := .d (.int _ _)) (opv_extract rfl rfl) rfl ?_
    refine RO.opv (v' := .d (encOL _)) (opv_assign rfl) rfl ?_
    refine RO.opv (v' := .d (.int _ _)) (opv_assign rfl) rfl ?_
    refine RO.nil ?_
    refine Runs.has [(2, .d .nilp), (5, .d (encOL _))] ⟨rfl, rfl, trivial⟩ ?_
    refine Runs.rseq ?_
    refine RO.opv (v' := .d (encOL _)) (opv_move rfl) rfl ?_
    refine RO.opv (v' := .d (encOL _)) (opv_assign rfl) rfl ?_
    refine RO.nil ?_
    refine Runs.ret ?_
    refine EndQ.tmp (.inr rfl) rfl rfl 0 (by exact Nat.le_refl _) (by exact Nat.zero_le _) trivial ⟨?_, rfl⟩
    rw [hl, newL_chain hk]; rfl
theorem few_fn (t : Term) (hb : t.bulk ≤ 2 ^ 30) : Fn Try.prog 11 [.d (enc t)] [] (.d (.bool (decide ((t.size : Int) ≤ 2000)))) [] := by
  refine Does.run Try.func11 rfl Try.ntmps11 rfl fun K hK => ?_
  refine Runs.rseq ?_
  refine RO.opn (v' := .ref 0 0) (O' := [_]) (opv_box_term rfl) rfl rfl ?_
  refine RO.opv (v' := .d (.bool false)) (opv_assign rfl) rfl ?_
  refine RO.nil ?_
  refine Runs.has [(1, .ref 0 0), (2, .d (.bool false))] ⟨rfl, rfl, trivial⟩ ?_
  refine Runs.rseq ?_
  refine RO.opv (v' := .d (enc _)) (opv_load_term rfl rfl rfl) rfl ?_
  refine RO.opv (v' := .d (.int _ _)) (opv_callF (rsize_fn t hb) rfl rfl rfl trivial) rfl ?_
  refine RO.opv (v' := .d (.bool _)) (opv_bin rfl rfl rfl) rfl ?_
  refine RO.opv (v' := .d (.bool _)) (opv_assign rfl) rfl ?_
  refine RO.nil ?_
  refine Runs.ret ?_
  refine EndQ.tmp (.inr rfl) rfl rfl 0 (by exact Nat.le_refl _) (by exact Nat.zero_le _) trivial ⟨?_, rfl⟩
  rfl
def sa : Term := .node 3 0 ⟨#[97]⟩ []
def sf : Term := .node 3 0 ⟨#[102]⟩ [sa]
def sx : Term := .node 3 0 ⟨#[102]⟩ [putS sa 2]
def sy : Term := .node 3 0 ⟨#[102]⟩ [putS sa 1]
theorem shown_fn  : Fn Try.prog 9 [] [] (.d (.bool true)) [] := by
  refine Does.run Try.func9 rfl Try.ntmps9 rfl fun K hK => ?_
  refine Runs.rseq ?_
  refine RO.opv (v' := .d (.bool false)) (opv_assign rfl) rfl ?_
  refine RO.nil ?_
  refine Runs.rseq ?_
  refine RO.opv (v' := .d (encL _)) (opv_callF (chain_fn 3 (by decide)) rfl rfl rfl trivial) rfl ?_
  refine RO.opv (v' := .d (encL _)) (opv_assign rfl) rfl ?_
  refine RO.nil ?_
  refine Runs.has [(0, .d (.bool false)), (1, .d (encL _))] ⟨rfl, rfl, trivial⟩ ?_
  refine Runs.seq ?_
  refine Runs.rseq ?_
  refine RO.opv (v' := .d (encL _)) (opv_move rfl) rfl ?_
  refine RO.opv (v' := .d (.bool false)) (opv_eqnil rfl rfl rfl) rfl ?_
  refine RO.nil ?_
  refine Runs.condF rfl ?_
  refine Runs.skip ?_
  refine thenQ_normal ?_
  refine Runs.has [(0, .d (.bool false)), (1, .d (encL _))] ⟨rfl, rfl, trivial⟩ ?_
  refine Runs.rseq ?_
  refine RO.opv (v' := .d (enc _)) (opv_callF (atom_fn ⟨#[97]⟩) rfl rfl rfl trivial) rfl ?_
  refine RO.opv (v' := .d (enc _)) (opv_callF (putS_fn _ _) rfl rfl rfl trivial) rfl ?_
  refine RO.opv (v' := .d (.list (encs _))) (opv_bs_term1 rfl ) rfl ?_
  refine RO.opv (v' := .d (enc _)) (opv_callF (make_fn ⟨#[102]⟩ [putS sa 2] (Nat.le_of_ble_eq_true rfl)) rfl rfl rfl trivial) rfl ?_
  refine RO.opn (v' := .ref 0 0) (O' := [_]) (opv_alloc) rfl rfl ?_
  refine RO.op0n (O' := [_]) (opv_store_term rfl rfl rfl (Nat.le_of_ble_eq_true rfl)) rfl ?_
  refine RO.nil ?_
  refine Runs.has [(0, .d (.bool false)), (1, .d (encL _)), (2, .ref 0 0)] ⟨rfl, rfl, rfl, trivial⟩ ?_
  refine Runs.rseq ?_
  refine RO.opv (v' := .d (encL _)) (opv_move rfl) rfl ?_
  refine RO.opv (v' := .d (enc _)) (opv_callF (atom_fn ⟨#[97]⟩) rfl rfl rfl trivial) rfl ?_
  refine RO.opv (v' := .d (.list (encs _))) (opv_bs_term1 rfl ) rfl ?_
  refine RO.opv (v' := .d (enc _)) (opv_callF (make_fn ⟨#[102]⟩ [sa] (Nat.le_of_ble_eq_true rfl)) rfl rfl rfl trivial) rfl ?_
  refine RO.opv (v' := .d (enc _)) (opv_callF (putS_fn _ _) rfl rfl rfl trivial) rfl ?_
  refine RO.opv (opv_callF (sopen_fn (C 3) (C_ok (by decide)) (putS sf 1) (Nat.le_of_ble_eq_true (by decide +kernel))) rfl rfl rfl ⟨trivial, trivial, trivial⟩) rfl ?_
  refine RO.opv (opv_move rfl) rfl ?_
  refine RO.opv (v' := .d (enc _)) (opv_extract rfl rfl) rfl ?_
  refine RO.opv (v' := .d (.int _ _)) (opv_extract rfl rfl) rfl ?_
  refine RO.opn (v' := .ref 1 0) (O' := [_, _]) (opv_alloc) rfl rfl ?_
  refine RO.op0n (O' := [_, _]) (opv_store_term rfl rfl rfl (Nat.le_of_ble_eq_true rfl)) rfl ?_
  refine RO.opv (v' := .d (.int _ _)) (opv_assign rfl) rfl ?_
  refine RO.nil ?_
  refine Runs.has [(0, .d (.bool false)), (1, .d (encL _)), (2, .ref 0 0), (3, .ref 1 0), (4, .d (.int _ _))] ⟨rfl, rfl, rfl, rfl, rfl, trivial⟩ ?_
  refine Runs.seq ?_
  refine Runs.drawn (by kernel_rfl) [] [false, false, false, false, false, false, false, false, false, false, false, false, false, false, false, false, false, false, false, false, false, false, false, false, false] [false, false, false, false, false, false, false, false, false, false, false, false, false, false, false, false, false, false, false, false, false, false, false, false, false] (by decide +kernel) ?_
  refine RD.opv (v' := .d (encL _)) (opv_move rfl) rfl ?_
  refine RD.opv (v' := .d (enc _)) (opv_load_term rfl rfl rfl) rfl ?_
  refine RD.opv (v' := .d (.int _ _)) (opv_callF (sjoin_fn (C 3) (C_ok (by decide)) sx (Nat.le_of_ble_eq_true (by decide +kernel))) rfl rfl rfl trivial) rfl ?_
  refine RD.opv (v' := .d (.bool _)) (opv_bin rfl rfl rfl) rfl ?_
  refine RD.opc (opv_move rfl) (fun h1 => ?_) (fun h1 => ?_)
  · skip
    refine RD.opgv (v' := .d (.int _ _)) rfl (opv_move rfl) rfl ?_
    refine RD.opgv (v' := .d (.bool _)) rfl (opv_bin rfl rfl rfl) rfl ?_
    refine RD.opv (v' := .d (.bool _)) (opv_pick rfl rfl) rfl ?_
    refine RD.opc (opv_move rfl) (fun h2 => ?_) (fun h2 => ?_)
    · skip
      refine RD.opgv (v' := .d (enc _)) rfl (opv_load_term rfl rfl rfl) rfl ?_
      refine RD.opgv (v' := .d (enc _)) rfl (opv_callF (atom_fn ⟨#[97]⟩) rfl rfl rfl trivial) rfl ?_
      refine RD.opgv (v' := .d (enc _)) rfl (opv_callF (putS_fn _ _) rfl rfl rfl trivial) rfl ?_
      refine RD.opgv (v' := .d (.list (encs _))) rfl (opv_bs_term1 rfl ) rfl ?_
      refine RD.opgv (v' := .d (enc _)) rfl (opv_callF (make_fn ⟨#[102]⟩ [putS sa 1] (Nat.le_of_ble_eq_true rfl)) rfl rfl rfl trivial) rfl ?_
      refine RD.opgv (v' := .d (.bool _)) rfl (opv_callF (same_fn (sopen (C 3) (putS sf 1)).1 sy (Nat.le_of_ble_eq_true (by decide +kernel)) (Nat.le_of_ble_eq_true (by decide +kernel))) rfl rfl rfl trivial) rfl ?_
      refine RD.opv (v' := .d (.bool _)) (opv_pick rfl rfl) rfl ?_
      refine RD.opc (opv_move rfl) (fun h3 => ?_) (fun h3 => ?_)
      · skip
        refine RD.opgv (v' := .d (enc _)) rfl (opv_load_term rfl rfl rfl) rfl ?_
        refine RD.opgv (v' := .d (enc _)) rfl (opv_callF (erase_fn sx (Nat.le_of_ble_eq_true (by decide +kernel))) rfl rfl rfl trivial) rfl ?_
        refine RD.opgv (v' := .d (enc _)) rfl (opv_callF (atom_fn ⟨#[97]⟩) rfl rfl rfl trivial) rfl ?_
        refine RD.opgv (v' := .d (.list (encs _))) rfl (opv_bs_term1 rfl ) rfl ?_
        refine RD.opgv (v' := .d (enc _)) rfl (opv_callF (make_fn ⟨#[102]⟩ [sa] (Nat.le_of_ble_eq_true rfl)) rfl rfl rfl trivial) rfl ?_
        refine RD.opgv (v' := .d (.bool _)) rfl (opv_callF (same_fn sx.erase sf (Nat.le_of_ble_eq_true (by decide +kernel)) (Nat.le_of_ble_eq_true (by decide +kernel))) rfl rfl rfl trivial) rfl ?_
        refine RD.opv (v' := .d (.bool _)) (opv_pick rfl rfl) rfl ?_
        refine RD.opv (v' := .d (.bool _)) (opv_assign rfl) rfl ?_
        refine RD.nil ?_
        refine thenQ_normal ?_
        refine Runs.ret ?_
        refine EndQ.tmp (.inr rfl) rfl rfl 0 (by exact Nat.le_refl _) (by exact Nat.zero_le _) trivial ⟨?_, rfl⟩
        refine bool_eq ?_; decide +kernel
      · skip
        exact absurd h3 (by decide +kernel)
    · skip
      exact absurd h2 (by decide +kernel)
  · skip
    exact absurd h1 (by decide +kernel)
end Go.Proofs.Ytklnjmnpkelnkaa.AM
