import Derived.Test.YtegfpnpghfcopaaTn
import Derived.Test.YtegfpnpghfcopaaS3
namespace Go.Proofs.Ytegfpnpghfcopaa.AM
open Go
set_option linter.unusedVariables false
set_option linter.unusedSimpArgs false
theorem new_fn  : Fn Try.prog 28 [] [] (.ref 2 0) [.buf 88 5 (encCells ((⟨[], [], 0, 0⟩ : St)).cs) ((⟨[], [], 0, 0⟩ : St)).v1, .buf 3 1 (ints ((⟨[], [], 0, 0⟩ : St)).tr) ((⟨[], [], 0, 0⟩ : St)).v2, .cells [.own 0 ((⟨[], [], 0, 0⟩ : St)).v1, .own 1 ((⟨[], [], 0, 0⟩ : St)).v2]] := by
  refine Does.run Try.func28 rfl Try.ntmps28 rfl fun K hK => ?_
  refine Runs.rseq ?_
  refine RO.opv (v' := .d .nilp) (opv_assign rfl) rfl ?_
  refine RO.nil ?_
  refine Runs.newbuf 88 5 ?_
  refine Runs.newbuf 3 1 ?_
  refine Runs.rseq ?_
  refine RO.opv (v' := .agg _) (opv_build_own2 0 1 rfl rfl) rfl ?_
  refine RO.opn (v' := .ref 2 0) (O' := [_, _, _]) (opv_box rfl rfl) rfl rfl ?_
  refine RO.opv (v' := .ref 2 0) (opv_assign rfl) rfl ?_
  refine RO.nil ?_
  refine Runs.ret ?_
  refine EndQ.tmp (.inr rfl) rfl rfl 3 (by simp) (by simp) (Nat.lt_succ_self 2) ⟨?_, ?_⟩
  · rfl
  · rfl
theorem bound_fn (s : St) (t : Term) : Fn Try.prog 51 [.ref 2 0, .d (enc t)] [.buf 88 5 (encCells (s).cs) (s).v1, .buf 3 1 (ints (s).tr) (s).v2, .cells [.own 0 (s).v1, .own 1 (s).v2]] (.d (.bool (s.look t).isSome)) [.buf 88 5 (encCells (s).cs) (s).v1, .buf 3 1 (ints (s).tr) (s).v2, .cells [.own 0 (s).v1, .own 1 (s).v2]] := by
  refine Does.run Try.func51 rfl Try.ntmps51 rfl fun K hK => ?_
  refine Runs.rseq ?_
  refine RO.opn (v' := .ref 3 0) (O' := [_, _, _, _]) (opv_box_term rfl) rfl rfl ?_
  refine RO.opv (v' := .d (.bool false)) (opv_assign rfl) rfl ?_
  refine RO.nil ?_
  refine Runs.has [(0, .ref 2 0), (3, .ref 3 0), (4, .d (.bool false))] ⟨rfl, rfl, rfl, trivial⟩ ?_
  refine Runs.seq ?_
  refine Runs.drawn (by kernel_rfl) [] [false, false, false, false, false, false, false, false, false, false, false, false, false, false, false, false, false, false, false, false, false, false, false, false, false, false, false, false, false, false, false, false, false, false] [false, false, false, false, false, false, false, false, false, false, false, false, false, false, false, false, false, false, false, false, false, false, false, false, false, false, false, false, false, false, false, false, false, false] (by decide +kernel) ?_
  refine RD.opv (v' := .ref 2 0) (opv_move rfl) rfl ?_
  refine RD.opv (v' := .d (.bool true)) (opv_nenil_ref rfl rfl rfl) rfl ?_
  refine RD.opv (v' := .d (.bool true)) (opv_move rfl) rfl ?_
  refine RD.opgv (v' := .ref 3 0) rfl (opv_field_ref rfl rfl) rfl ?_
  refine RD.opgv (v' := .d (.int _ _)) rfl (opv_load_ref rfl rfl rfl) rfl ?_
  refine RD.opgv (v' := .d (.bool _)) rfl (opv_bin rfl rfl rfl) rfl ?_
  refine RD.opv (v' := .d (.bool _)) (opv_pick rfl rfl) rfl ?_
  refine RD.opc (opv_move rfl) (fun h1 => ?_) (fun h1 => ?_)
  · try simp only [decide_eq_true_eq, decide_eq_false_iff_not, beq_iff_eq, beq_eq_false_iff_ne, bne_iff_ne, bne_eq_false_iff_eq, Int.not_lt, Int.not_le, ne_eq, Bool.not_eq_true', Bool.not_eq_false', gt_iff_lt, ge_iff_le] at h1
    refine RD.opgv (v' := .ref 3 1) rfl (opv_field_ref rfl rfl) rfl ?_
    refine RD.opgv (v' := .d (.int _ _)) rfl (opv_load_ref rfl rfl rfl) rfl ?_
    refine RD.opgv (v' := .d (.bool _)) rfl (opv_bin rfl rfl rfl) rfl ?_
    refine RD.opv (v' := .d (.bool _)) (opv_pick rfl rfl) rfl ?_
    refine RD.opc (opv_move rfl) (fun h2 => ?_) (fun h2 => ?_)
    · try simp only [decide_eq_true_eq, decide_eq_false_iff_not, beq_iff_eq, beq_eq_false_iff_ne, bne_iff_ne, bne_eq_false_iff_eq, Int.not_lt, Int.not_le, ne_eq, Bool.not_eq_true', Bool.not_eq_false', gt_iff_lt, ge_iff_le] at h2
      refine RD.opgv (v' := .ref 3 1) rfl (opv_field_ref rfl rfl) rfl ?_
      refine RD.opgv (v' := .d (.int _ _)) rfl (opv_load_ref rfl rfl rfl) rfl ?_
      refine RD.opgv (v' := .ref 2 0) rfl (opv_move rfl) rfl ?_
      refine RD.opgv (v' := .ref 2 0) rfl (opv_nilCheck_ref rfl rfl) rfl ?_
      refine RD.opgv (v' := .ref 2 0) rfl (opv_field_ref rfl rfl) rfl ?_
      refine RD.opgv (v' := .own 0 _) rfl (opv_load_ref rfl rfl rfl) rfl ?_
      refine RD.opgv (v' := .d (.int _ _)) rfl (opv_len_cells rfl rfl) rfl ?_
      refine RD.opgv (v' := .d (.bool _)) rfl (opv_bin rfl rfl rfl) rfl ?_
      refine RD.opv (v' := .d (.bool _)) (opv_pick rfl rfl) rfl ?_
      refine RD.opc (opv_move rfl) (fun h3 => ?_) (fun h3 => ?_)
      · try simp only [decide_eq_true_eq, decide_eq_false_iff_not, beq_iff_eq, beq_eq_false_iff_ne, bne_iff_ne, bne_eq_false_iff_eq, Int.not_lt, Int.not_le, ne_eq, Bool.not_eq_true', Bool.not_eq_false', gt_iff_lt, ge_iff_le] at h3
        refine RD.opgv (v' := .ref 2 0) rfl (opv_move rfl) rfl ?_
        refine RD.opgv (v' := .ref 2 0) rfl (opv_nilCheck_ref rfl rfl) rfl ?_
        refine RD.opgv (v' := .ref 2 0) rfl (opv_field_ref rfl rfl) rfl ?_
        refine RD.opgv (v' := .own 0 _) rfl (opv_load_ref rfl rfl rfl) rfl ?_
        refine RD.opgv (v' := .ref 3 1) rfl (opv_field_ref rfl rfl) rfl ?_
        refine RD.opgv (v' := .d (.int _ _)) rfl (opv_load_ref rfl rfl rfl) rfl ?_
        refine RD.opgv (v' := .oel 0 _ _ 0) rfl (opv_index_cells rfl rfl rfl h2 h3) rfl ?_
        refine RD.opgv (v' := .oel 0 _ _ 0) rfl (opv_field_oel rfl rfl) rfl ?_
        refine RD.opgv (v' := .d (.bool _)) rfl (opv_load_bound rfl rfl (bound_i h1 h2 h3)) rfl ?_
        refine RD.opv (v' := .d (.bool _)) (opv_pick rfl rfl) rfl ?_
        refine RD.opv (v' := .d (.bool _)) (opv_assign rfl) rfl ?_
        refine RD.nil ?_
        refine thenQ_normal ?_
        refine Runs.ret ?_
        refine EndQ.tmp (.inr rfl) rfl rfl 3 (by exact Nat.le_refl _) (by simp) trivial ⟨?_, rfl⟩
        rfl
      · try simp only [decide_eq_true_eq, decide_eq_false_iff_not, beq_iff_eq, beq_eq_false_iff_ne, bne_iff_ne, bne_eq_false_iff_eq, Int.not_lt, Int.not_le, ne_eq, Bool.not_eq_true', Bool.not_eq_false', gt_iff_lt, ge_iff_le] at h3
        refine RD.off rfl ?_
        refine RD.off rfl ?_
        refine RD.off rfl ?_
        refine RD.off rfl ?_
        refine RD.off rfl ?_
        refine RD.off rfl ?_
        refine RD.off rfl ?_
        refine RD.off rfl ?_
        refine RD.off rfl ?_
        refine RD.opv (v' := .d (.bool false)) (opv_pick rfl rfl) rfl ?_
        refine RD.opv (v' := .d (.bool false)) (opv_assign rfl) rfl ?_
        refine RD.nil ?_
        refine thenQ_normal ?_
        refine Runs.ret ?_
        refine EndQ.tmp (.inr rfl) rfl rfl 3 (by exact Nat.le_refl _) (by simp) trivial ⟨?_, rfl⟩
        refine bool_eq ?_; rw [look_far (by omega)]; rfl
    · try simp only [decide_eq_true_eq, decide_eq_false_iff_not, beq_iff_eq, beq_eq_false_iff_ne, bne_iff_ne, bne_eq_false_iff_eq, Int.not_lt, Int.not_le, ne_eq, Bool.not_eq_true', Bool.not_eq_false', gt_iff_lt, ge_iff_le] at h2
      refine RD.off rfl ?_
      refine RD.off rfl ?_
      refine RD.off rfl ?_
      refine RD.off rfl ?_
      refine RD.off rfl ?_
      refine RD.off rfl ?_
      refine RD.off rfl ?_
      refine RD.off rfl ?_
      refine RD.opv (v' := .d (.bool false)) (opv_pick rfl rfl) rfl ?_
      refine RD.opv (v' := .d (.bool false)) (opv_move rfl) rfl ?_
      refine RD.off rfl ?_
      refine RD.off rfl ?_
      refine RD.off rfl ?_
      refine RD.off rfl ?_
      refine RD.off rfl ?_
      refine RD.off rfl ?_
      refine RD.off rfl ?_
      refine RD.off rfl ?_
      refine RD.off rfl ?_
      refine RD.opv (v' := .d (.bool false)) (opv_pick rfl rfl) rfl ?_
      refine RD.opv (v' := .d (.bool false)) (opv_assign rfl) rfl ?_
      refine RD.nil ?_
      refine thenQ_normal ?_
      refine Runs.ret ?_
      refine EndQ.tmp (.inr rfl) rfl rfl 3 (by exact Nat.le_refl _) (by simp) trivial ⟨?_, rfl⟩
      refine bool_eq ?_; unfold St.look; rw [if_neg (by omega)]; rfl
  · try simp only [decide_eq_true_eq, decide_eq_false_iff_not, beq_iff_eq, beq_eq_false_iff_ne, bne_iff_ne, bne_eq_false_iff_eq, Int.not_lt, Int.not_le, ne_eq, Bool.not_eq_true', Bool.not_eq_false', gt_iff_lt, ge_iff_le] at h1
    refine RD.off rfl ?_
    refine RD.off rfl ?_
    refine RD.off rfl ?_
    refine RD.opv (v' := .d (.bool false)) (opv_pick rfl rfl) rfl ?_
    refine RD.opv (v' := .d (.bool false)) (opv_move rfl) rfl ?_
    refine RD.off rfl ?_
    refine RD.off rfl ?_
    refine RD.off rfl ?_
    refine RD.off rfl ?_
    refine RD.off rfl ?_
    refine RD.off rfl ?_
    refine RD.off rfl ?_
    refine RD.off rfl ?_
    refine RD.opv (v' := .d (.bool false)) (opv_pick rfl rfl) rfl ?_
    refine RD.opv (v' := .d (.bool false)) (opv_move rfl) rfl ?_
    refine RD.off rfl ?_
    refine RD.off rfl ?_
    refine RD.off rfl ?_
    refine RD.off rfl ?_
    refine RD.off rfl ?_
    refine RD.off rfl ?_
    refine RD.off rfl ?_
    refine RD.off rfl ?_
    refine RD.off rfl ?_
    refine RD.opv (v' := .d (.bool false)) (opv_pick rfl rfl) rfl ?_
    refine RD.opv (v' := .d (.bool false)) (opv_assign rfl) rfl ?_
    refine RD.nil ?_
    refine thenQ_normal ?_
    refine Runs.ret ?_
    refine EndQ.tmp (.inr rfl) rfl rfl 3 (by exact Nat.le_refl _) (by simp) trivial ⟨?_, rfl⟩
    refine bool_eq ?_; unfold St.look; rw [if_neg (by omega)]; rfl
theorem walks_fn (s : St) (t : Term) (n : Nat) (hn : s.look (s.walk n t) = none) : Fn Try.prog 32 [.ref 2 0, .d (enc t)] [.buf 88 5 (encCells (s).cs) (s).v1, .buf 3 1 (ints (s).tr) (s).v2, .cells [.own 0 (s).v1, .own 1 (s).v2]] (.d (enc (s.walk n t))) [.buf 88 5 (encCells (s).cs) (s).v1, .buf 3 1 (ints (s).tr) (s).v2, .cells [.own 0 (s).v1, .own 1 (s).v2]] := by
  refine Does.run Try.func32 rfl Try.ntmps32 rfl fun K hK => ?_
  refine Runs.rseq ?_
  refine RO.opn (v' := .ref 3 0) (O' := [_, _, _, _]) (opv_box_term rfl) rfl rfl ?_
  refine RO.opn (v' := .ref 4 0) (O' := [_, _, _, _, _]) (opv_alloc) rfl rfl ?_
  refine RO.nil ?_
  refine Runs.has [(0, .ref 2 0), (3, .ref 3 0), (4, .ref 4 0)] ⟨rfl, rfl, rfl, trivial⟩ ?_
  refine Runs.seq ?_
  refine Runs.block ?_
  refine Runs.loopC (X := (Term × Nat)) (fun x => s.walk x.2 x.1 = s.walk n t ∧ s.look (s.walk x.2 x.1) = none) (fun x => x.2) [(0, .ref 2 0), (3, .ref 3 0), (4, .ref 4 0)] (fun x => []) [_, _, _] (fun x => [.cells (cellsT x.1), .cells [.d (.int .i64 0), .d (.int .i64 0), .d (.str ⟨#[]⟩), .nil0]]) ((t, n)) ⟨rfl, rfl, rfl, trivial⟩ trivial rfl ⟨rfl, hn⟩ fun x hi => ?_
  refine Runs.seq ?_
  refine Runs.rseq ?_
  refine RO.opv (v' := .ref 2 0) (opv_move rfl) rfl ?_
  refine RO.opv (v' := .d (enc _)) (opv_load_term rfl rfl rfl) rfl ?_
  refine RO.opc (opv_callP 3 (bound_fn s x.1) rfl rfl (Nat.le_of_ble_eq_true rfl) rfl (AV.bds_of_B _ rfl)) (fun h1 => ?_) (fun h1 => ?_)
  · try simp only [decide_eq_true_eq, decide_eq_false_iff_not, beq_iff_eq, beq_eq_false_iff_ne, bne_iff_ne, bne_eq_false_iff_eq, Int.not_lt, Int.not_le, ne_eq, Bool.not_eq_true', Bool.not_eq_false', gt_iff_lt, ge_iff_le] at h1
    obtain ⟨u, hu⟩ := Option.isSome_iff_exists.1 h1
    obtain ⟨k1, k2, k3, k4⟩ := look_lt hu
    have hI := hi
    obtain ⟨m, hm⟩ : ∃ m, x.2 = m + 1 := ⟨x.2 - 1, by cases hq : x.2 with | zero => (have := hi.2; rw [hq] at this; simp only [St.walk] at this; rw [hu] at this; cases this) | succ m => omega⟩
    rw [hm, walk_nx hu] at hI
    refine RO.nil ?_
    refine Runs.condT rfl ?_
    refine Runs.skip ?_
    refine thenQ_normal ?_
    refine Runs.block ?_
    refine Runs.has [(0, .ref 2 0), (3, .ref 3 0), (4, .ref 4 0)] ⟨rfl, rfl, rfl, trivial⟩ ?_
    refine Runs.drawn (by kernel_rfl) [] [false, false, false, false, false, false, false, false, false, false] [false, false, false, false, false, false, false, false, false, true] (by decide +kernel) ?_
    refine RD.opv (v' := .ref 2 0) (opv_move rfl) rfl ?_
    refine RD.opv (v' := .ref 2 0) (opv_nilCheck_ref rfl rfl) rfl ?_
    refine RD.opv (v' := .ref 2 0) (opv_field_ref rfl rfl) rfl ?_
    refine RD.opv (v' := .own 0 _) (opv_load_ref rfl rfl rfl) rfl ?_
    refine RD.opv (v' := .ref 3 1) (opv_field_ref rfl rfl) rfl ?_
    refine RD.opv (v' := .d (.int _ _)) (opv_load_ref rfl rfl rfl) rfl ?_
    refine RD.opv (v' := .oel 0 _ _ 0) (opv_index_cells rfl rfl rfl k2 k3) rfl ?_
    refine RD.opv (v' := .oel 0 _ _ 1) (opv_field_oel rfl rfl) rfl ?_
    refine RD.opv (v' := .d (enc _)) (opv_load_cellt rfl rfl k4) rfl ?_
    refine RD.op0n (O' := [_, _, _, _, _]) (opv_store_term rfl rfl rfl (Nat.le_of_ble_eq_true rfl)) rfl trivial ?_
    refine RD.nil ?_
    refine blockQ_normal ?_
    refine thenQ_normal ?_
    refine ⟨(u, m), 5, (by rw [hK]; exact Nat.le_of_ble_eq_true rfl), ⟨rfl, rfl, rfl, trivial⟩, trivial, rfl, ?_, ?_⟩
    · exact hI
    · show m < x.2; omega
  · try simp only [decide_eq_true_eq, decide_eq_false_iff_not, beq_iff_eq, beq_eq_false_iff_ne, bne_iff_ne, bne_eq_false_iff_eq, Int.not_lt, Int.not_le, ne_eq, Bool.not_eq_true', Bool.not_eq_false', gt_iff_lt, ge_iff_le] at h1
    have hl := look_none_of h1
    refine RO.nil ?_
    refine Runs.condF rfl ?_
    refine Runs.exit ?_
    refine thenQ_exit ?_
    refine thenQ_exit ?_
    refine blockQ_here ?_
    refine thenQ_normal ?_
    refine Runs.has [(3, .ref 3 0), (4, .ref 4 0)] ⟨rfl, rfl, trivial⟩ ?_
    refine Runs.rseq ?_
    refine RO.opv (v' := .d (enc _)) (opv_load_term rfl rfl rfl) rfl ?_
    refine RO.op0n (O' := [_, _, _, _, _]) (opv_store_term rfl rfl rfl (Nat.le_of_ble_eq_true rfl)) rfl ?_
    refine RO.nil ?_
    refine Runs.ret ?_
    refine EndQ.cell_term (.inr rfl) rfl rfl rfl rfl 3 (by exact Nat.le_refl _) (by simp) ⟨?_, rfl⟩
    refine term_eq ?_; rw [← hi.1, walk_stop hl]
theorem wk_fn (s : St) (t : Term) (hn : s.look (s.wk t) = none) : Fn Try.prog 32 [.ref 2 0, .d (enc t)] [.buf 88 5 (encCells (s).cs) (s).v1, .buf 3 1 (ints (s).tr) (s).v2, .cells [.own 0 (s).v1, .own 1 (s).v2]] (.d (enc (s.wk t))) [.buf 88 5 (encCells (s).cs) (s).v1, .buf 3 1 (ints (s).tr) (s).v2, .cells [.own 0 (s).v1, .own 1 (s).v2]] := walks_fn s t _ hn
theorem in_aux (s : St) (v : Int) (a : AObj) (hs : s.small (2 ^ 30)) : ∀ (N n : Nat) (t : Term) (seen : List Int) (b : Bool) (seen' : List Int), n ≤ N → inT s v n t seen = some (b, seen') → t.bulk ≤ 2 ^ 30 → Fn Try.prog 43 [.ref 2 0, .d (enc t), .d (.int .i64 v), .mp 4] [.buf 88 5 (encCells (s).cs) (s).v1, .buf 3 1 (ints (s).tr) (s).v2, .cells [.own 0 (s).v1, .own 1 (s).v2], a, .mapo (mseen seen)] (.d (.bool b)) [.buf 88 5 (encCells (s).cs) (s).v1, .buf 3 1 (ints (s).tr) (s).v2, .cells [.own 0 (s).v1, .own 1 (s).v2], a, .mapo (mseen seen')] := by
  intro N
  induction N with
  | zero => intro n t seen b seen' hn hI; obtain ⟨m, rfl⟩ := inT_pos hI; omega
  | succ N ih =>
  intro n t seen b seen' hn hI0 hb
  refine Does.run Try.func43 rfl Try.ntmps43 rfl fun K hK => ?_
  refine Runs.rseq ?_
  refine RO.opn (v' := .ref 5 0) (O' := [_, _, _, _, _, _]) (opv_box_term rfl) rfl rfl ?_
  refine RO.opv (v' := .d (.bool false)) (opv_assign rfl) rfl ?_
  refine RO.nil ?_
  refine Runs.has [(0, .ref 2 0), (2, .d (.int _ _)), (3, .mp 4), (5, .ref 5 0), (8, .d (.bool false))] ⟨rfl, rfl, rfl, rfl, rfl, trivial⟩ ?_
  refine Runs.seq ?_
  refine Runs.block ?_
  refine Runs.loopC (X := (Term × List Int × Nat)) (fun x => inT s v x.2.2 x.1 x.2.1 = some (b, seen') ∧ x.2.2 ≤ N + 1 ∧ x.1.bulk ≤ 2 ^ 30) (fun x => x.2.2) [(0, .ref 2 0), (2, .d (.int _ _)), (3, .mp 4), (5, .ref 5 0)] (fun x => []) [_, _, _, _] (fun x => [.mapo (mseen x.2.1), .cells (cellsT x.1)]) ((t, seen, n)) ⟨rfl, rfl, rfl, rfl, trivial⟩ trivial rfl ⟨hI0, hn, hb⟩ fun x hi => ?_
  refine Runs.seq ?_
  refine Runs.rseq ?_
  refine RO.opv (v' := .ref 2 0) (opv_move rfl) rfl ?_
  refine RO.opv (v' := .d (enc _)) (opv_load_term rfl rfl rfl) rfl ?_
  refine RO.opc (opv_callP 3 (bound_fn s x.1) rfl rfl (Nat.le_of_ble_eq_true rfl) rfl (AV.bds_of_B _ rfl)) (fun h1 => ?_) (fun h1 => ?_)
  · try simp only [decide_eq_true_eq, decide_eq_false_iff_not, beq_iff_eq, beq_eq_false_iff_ne, bne_iff_ne, bne_eq_false_iff_eq, Int.not_lt, Int.not_le, ne_eq, Bool.not_eq_true', Bool.not_eq_false', gt_iff_lt, ge_iff_le] at h1
    obtain ⟨u, hu⟩ := Option.isSome_iff_exists.1 h1
    obtain ⟨k1, k2, k3, k4⟩ := look_lt hu
    have hI := hi.1
    obtain ⟨m, hm⟩ := inT_pos hI
    rw [hm] at hI
    simp only [inT, hu] at hI
    refine RO.nil ?_
    refine Runs.condT rfl ?_
    refine Runs.skip ?_
    refine thenQ_normal ?_
    refine Runs.block ?_
    refine Runs.has [(0, .ref 2 0), (2, .d (.int _ _)), (3, .mp 4), (5, .ref 5 0)] ⟨rfl, rfl, rfl, rfl, trivial⟩ ?_
    refine Runs.seq ?_
    refine Runs.rseq ?_
    refine RO.opv (v' := .mp 4) (opv_move rfl) rfl ?_
    refine RO.opv (v' := .ref 5 1) (opv_field_ref rfl rfl) rfl ?_
    refine RO.opv (v' := .d (.int _ _)) (opv_load_ref rfl rfl rfl) rfl ?_
    refine RO.opc (opv_lookup_seen rfl rfl rfl) (fun h2 => ?_) (fun h2 => ?_)
    · try simp only [decide_eq_true_eq, decide_eq_false_iff_not, beq_iff_eq, beq_eq_false_iff_ne, bne_iff_ne, bne_eq_false_iff_eq, Int.not_lt, Int.not_le, ne_eq, Bool.not_eq_true', Bool.not_eq_false', gt_iff_lt, ge_iff_le] at h2
      rw [if_pos h2] at hI
      simp only [Option.some.injEq, Prod.mk.injEq] at hI
      refine RO.nil ?_
      refine Runs.condT rfl ?_
      refine Runs.has [(0, .ref 2 0), (2, .d (.int _ _)), (3, .mp 4), (5, .ref 5 0)] ⟨rfl, rfl, rfl, rfl, trivial⟩ ?_
      refine Runs.rseq ?_
      refine RO.opv (v' := .d (.bool false)) (opv_assign rfl) rfl ?_
      refine RO.nil ?_
      refine Runs.ret ?_
      refine thenQ_ret ?_
      refine blockQ_ret ?_
      refine thenQ_ret ?_
      refine blockQ_ret ?_
      refine thenQ_ret ?_
      refine EndQ.tmp (.inr rfl) rfl rfl 5 (by exact Nat.le_refl _) (by simp) trivial ⟨?_, ?_⟩
      · refine bool_eq ?_; exact hI.1
      · rw [← hI.2]; rfl
    · try simp only [decide_eq_true_eq, decide_eq_false_iff_not, beq_iff_eq, beq_eq_false_iff_ne, bne_iff_ne, bne_eq_false_iff_eq, Int.not_lt, Int.not_le, ne_eq, Bool.not_eq_true', Bool.not_eq_false', gt_iff_lt, ge_iff_le] at h2
      rw [if_neg h2] at hI
      have hns := h2
      refine RO.nil ?_
      refine Runs.condF rfl ?_
      refine Runs.skip ?_
      refine thenQ_normal ?_
      refine Runs.has [(0, .ref 2 0), (2, .d (.int _ _)), (3, .mp 4), (5, .ref 5 0)] ⟨rfl, rfl, rfl, rfl, trivial⟩ ?_
      refine Runs.rseq ?_
      refine RO.opv (v' := .mp 4) (opv_move rfl) rfl ?_
      refine RO.opv (v' := .ref 5 1) (opv_field_ref rfl rfl) rfl ?_
      refine RO.opv (v' := .d (.int _ _)) (opv_load_ref rfl rfl rfl) rfl ?_
      refine RO.op0n (O' := [_, _, _, _, _, _]) (opv_update_seen rfl rfl rfl rfl hns) rfl ?_
      refine RO.nil ?_
      refine Runs.has [(0, .ref 2 0), (2, .d (.int _ _)), (3, .mp 4), (5, .ref 5 0)] ⟨rfl, rfl, rfl, rfl, trivial⟩ ?_
      refine Runs.drawn (by kernel_rfl) [] [false, false, false, false, false, false, false, false, false, false] [false, false, false, false, false, false, false, false, false, true] (by decide +kernel) ?_
      refine RD.opv (v' := .ref 2 0) (opv_move rfl) rfl ?_
      refine RD.opv (v' := .ref 2 0) (opv_nilCheck_ref rfl rfl) rfl ?_
      refine RD.opv (v' := .ref 2 0) (opv_field_ref rfl rfl) rfl ?_
      refine RD.opv (v' := .own 0 _) (opv_load_ref rfl rfl rfl) rfl ?_
      refine RD.opv (v' := .ref 5 1) (opv_field_ref rfl rfl) rfl ?_
      refine RD.opv (v' := .d (.int _ _)) (opv_load_ref rfl rfl rfl) rfl ?_
      refine RD.opv (v' := .oel 0 _ _ 0) (opv_index_cells rfl rfl rfl k2 k3) rfl ?_
      refine RD.opv (v' := .oel 0 _ _ 1) (opv_field_oel rfl rfl) rfl ?_
      refine RD.opv (v' := .d (enc _)) (opv_load_cellt rfl rfl k4) rfl ?_
      refine RD.op0n (O' := [_, _, _, _, _, _]) (opv_store_term rfl rfl rfl (Nat.le_of_ble_eq_true rfl)) rfl trivial ?_
      refine RD.nil ?_
      refine blockQ_normal ?_
      refine thenQ_normal ?_
      refine ⟨(u, x.2.1 ++ [x.1.num], m), 6, (by rw [hK]; exact Nat.le_of_ble_eq_true rfl), ⟨rfl, rfl, rfl, rfl, trivial⟩, trivial, rfl, ?_, ?_⟩
      · exact ⟨hI, by have := hi.2.1; show m ≤ N + 1; omega, hs _ _ k4⟩
      · show m < x.2.2; omega
  · try simp only [decide_eq_true_eq, decide_eq_false_iff_not, beq_iff_eq, beq_eq_false_iff_ne, bne_iff_ne, bne_eq_false_iff_eq, Int.not_lt, Int.not_le, ne_eq, Bool.not_eq_true', Bool.not_eq_false', gt_iff_lt, ge_iff_le] at h1
    have hl := look_none_of h1
    have hI := hi.1
    obtain ⟨m, hm⟩ := inT_pos hI
    rw [hm] at hI
    simp only [inT, hl] at hI
    have hU := x.1.bulk_kids
    have hL := bulks_len x.1.kids
    have hb3 := hi.2.2
    refine RO.nil ?_
    refine Runs.condF rfl ?_
    refine Runs.exit ?_
    refine thenQ_exit ?_
    refine thenQ_exit ?_
    refine blockQ_here ?_
    refine thenQ_normal ?_
    refine Runs.has [(0, .ref 2 0), (2, .d (.int _ _)), (3, .mp 4), (5, .ref 5 0)] ⟨rfl, rfl, rfl, rfl, trivial⟩ ?_
    refine Runs.seq ?_
    refine Runs.rseq ?_
    refine RO.opv (v' := .ref 5 0) (opv_field_ref rfl rfl) rfl ?_
    refine RO.opv (v' := .d (.int _ _)) (opv_load_ref rfl rfl rfl) rfl ?_
    refine RO.nil ?_
    refine Runs.block ?_
    refine Runs.has [(0, .ref 2 0), (2, .d (.int _ _)), (3, .mp 4), (5, .ref 5 0), (31, .d (.int _ _))] ⟨rfl, rfl, rfl, rfl, rfl, trivial⟩ ?_
    refine Runs.rseq ?_
    refine RO.opv (v' := .d (.bool _)) (opv_bin rfl rfl rfl) rfl ?_
    refine RO.opc (opv_assign rfl) (fun h3 => ?_) (fun h3 => ?_)
    · try simp only [decide_eq_true_eq, decide_eq_false_iff_not, beq_iff_eq, beq_eq_false_iff_ne, bne_iff_ne, bne_eq_false_iff_eq, Int.not_lt, Int.not_le, ne_eq, Bool.not_eq_true', Bool.not_eq_false', gt_iff_lt, ge_iff_le] at h3
      rw [if_pos h3] at hI
      simp only [Option.some.injEq, Prod.mk.injEq] at hI
      refine RO.nil ?_
      refine Runs.condT rfl ?_
      refine Runs.has [(0, .ref 2 0), (2, .d (.int _ _)), (3, .mp 4), (5, .ref 5 0)] ⟨rfl, rfl, rfl, rfl, trivial⟩ ?_
      refine Runs.rseq ?_
      refine RO.opv (v' := .ref 5 1) (opv_field_ref rfl rfl) rfl ?_
      refine RO.opv (v' := .d (.int _ _)) (opv_load_ref rfl rfl rfl) rfl ?_
      refine RO.opv (v' := .d (.int _ _)) (opv_move rfl) rfl ?_
      refine RO.opv (v' := .d (.bool _)) (opv_bin rfl rfl rfl) rfl ?_
      refine RO.opv (v' := .d (.bool _)) (opv_assign rfl) rfl ?_
      refine RO.nil ?_
      refine Runs.ret ?_
      refine blockQ_ret ?_
      refine thenQ_ret ?_
      refine EndQ.tmp (.inr rfl) rfl rfl 5 (by exact Nat.le_refl _) (by simp) trivial ⟨?_, ?_⟩
      · refine bool_eq ?_; exact hI.1
      · rw [← hI.2]; rfl
    · try simp only [decide_eq_true_eq, decide_eq_false_iff_not, beq_iff_eq, beq_eq_false_iff_ne, bne_iff_ne, bne_eq_false_iff_eq, Int.not_lt, Int.not_le, ne_eq, Bool.not_eq_true', Bool.not_eq_false', gt_iff_lt, ge_iff_le] at h3
      rw [if_neg h3] at hI
      refine RO.nil ?_
      refine Runs.condF rfl ?_
      refine Runs.has [(0, .ref 2 0), (2, .d (.int _ _)), (3, .mp 4), (5, .ref 5 0), (31, .d (.int _ _))] ⟨rfl, rfl, rfl, rfl, rfl, trivial⟩ ?_
      refine Runs.rseq ?_
      refine RO.opv (v' := .d (.bool _)) (opv_bin rfl rfl rfl) rfl ?_
      refine RO.opc (opv_assign rfl) (fun h4 => ?_) (fun h4 => ?_)
      · try simp only [decide_eq_true_eq, decide_eq_false_iff_not, beq_iff_eq, beq_eq_false_iff_ne, bne_iff_ne, bne_eq_false_iff_eq, Int.not_lt, Int.not_le, ne_eq, Bool.not_eq_true', Bool.not_eq_false', gt_iff_lt, ge_iff_le] at h4
        rw [if_pos h4] at hI
        simp only [Option.some.injEq, Prod.mk.injEq] at hI
        refine RO.nil ?_
        refine Runs.condT rfl ?_
        refine Runs.has [(0, .ref 2 0), (2, .d (.int _ _)), (3, .mp 4), (5, .ref 5 0)] ⟨rfl, rfl, rfl, rfl, trivial⟩ ?_
        refine Runs.rseq ?_
        refine RO.opv (v' := .d (.bool false)) (opv_assign rfl) rfl ?_
        refine RO.nil ?_
        refine Runs.ret ?_
        refine blockQ_ret ?_
        refine thenQ_ret ?_
        refine EndQ.tmp (.inr rfl) rfl rfl 5 (by exact Nat.le_refl _) (by simp) trivial ⟨?_, ?_⟩
        · refine bool_eq ?_; exact hI.1
        · rw [← hI.2]; rfl
      · try simp only [decide_eq_true_eq, decide_eq_false_iff_not, beq_iff_eq, beq_eq_false_iff_ne, bne_iff_ne, bne_eq_false_iff_eq, Int.not_lt, Int.not_le, ne_eq, Bool.not_eq_true', Bool.not_eq_false', gt_iff_lt, ge_iff_le] at h4
        rw [if_neg h4] at hI
        refine RO.nil ?_
        refine Runs.condF rfl ?_
        refine Runs.skip ?_
        refine blockQ_normal ?_
        refine thenQ_normal ?_
        refine Runs.has [(0, .ref 2 0), (2, .d (.int _ _)), (3, .mp 4), (5, .ref 5 0)] ⟨rfl, rfl, rfl, rfl, trivial⟩ ?_
        refine Runs.seq ?_
        refine Runs.rseq ?_
        refine RO.opv (v' := .ref 5 3) (opv_field_ref rfl rfl) rfl ?_
        refine RO.opv (v' := .d (.list (encs _))) (opv_load_ref rfl rfl rfl) rfl ?_
        refine RO.opv (v' := .d (.int _ _)) (opv_len_terms rfl) rfl ?_
        refine RO.opv (v' := .d (.int _ _)) (opv_move rfl) rfl ?_
        refine RO.nil ?_
        refine Runs.block ?_
        refine Runs.loopC (X := (Nat × List Int × Nat)) (fun y => y.1 ≤ x.1.kids.length ∧ inK s v y.2.2 (x.1.kids.drop y.1) y.2.1 = some (b, seen') ∧ y.2.2 ≤ N) (fun y => x.1.kids.length - y.1) [(0, .ref 2 0), (2, .d (.int _ _)), (3, .mp 4), (41, .d (.list (encs _))), (42, .d (.int _ _))] (fun y => [(43, .d (.int .i64 (y.1 : Nat)))]) [_, _, _, _] (fun y => [.mapo (mseen y.2.1), .cells (cellsT x.1)]) (((0 : Nat), x.2.1, m)) ⟨rfl, rfl, rfl, rfl, rfl, trivial⟩ ⟨rfl, trivial⟩ rfl ⟨Nat.zero_le _, hI, by have := hi.2.1; show m ≤ N; omega⟩ fun y hj => ?_
        refine Runs.rseq ?_
        refine RO.opc (opv_bin rfl rfl rfl) (fun h5 => ?_) (fun h5 => ?_)
        · try simp only [decide_eq_true_eq, decide_eq_false_iff_not, beq_iff_eq, beq_eq_false_iff_ne, bne_iff_ne, bne_eq_false_iff_eq, Int.not_lt, Int.not_le, ne_eq, Bool.not_eq_true', Bool.not_eq_false', gt_iff_lt, ge_iff_le] at h5
          have hk : y.1 < x.1.kids.length := by omega
          have hJ := hj.2.1
          obtain ⟨m2, hm2⟩ := inK_pos hJ
          rw [hm2, drop_get hk] at hJ
          obtain ⟨b2, seen2, hT, hJ⟩ := inK_cons hJ
          have hj3 := hj.2.2
          refine RO.nil ?_
          refine Runs.seq ?_
          refine Runs.condT rfl ?_
          refine Runs.skip ?_
          refine thenQ_normal ?_
          refine Runs.has [(0, .ref 2 0), (2, .d (.int _ _)), (3, .mp 4), (41, .d (.list (encs _))), (42, .d (.int _ _)), (43, .d (.int _ _))] ⟨rfl, rfl, rfl, rfl, rfl, rfl, trivial⟩ ?_
          refine Runs.seq ?_
          refine Runs.block ?_
          refine Runs.rseq ?_
          refine RO.opv (v' := .d (.ptr _)) (opv_index_terms rfl rfl (by omega)) rfl ?_
          refine RO.opv (v' := .d (enc _)) (opv_load_pterm rfl) rfl ?_
          refine RO.opn (v' := .ref 6 0) (O' := [_, _, _, _, _, _, _]) (opv_alloc) rfl rfl ?_
          refine RO.op0n (O' := [_, _, _, _, _, _, _]) (opv_store_term rfl rfl rfl (Nat.le_of_ble_eq_true rfl)) rfl ?_
          refine RO.nil ?_
          refine Runs.has [(0, .ref 2 0), (2, .d (.int _ _)), (3, .mp 4), (10, .ref 6 0), (41, .d (.list (encs _))), (42, .d (.int _ _)), (43, .d (.int _ _))] ⟨rfl, rfl, rfl, rfl, rfl, rfl, rfl, trivial⟩ ?_
          refine Runs.rseq ?_
          refine RO.opv (v' := .ref 2 0) (opv_move rfl) rfl ?_
          refine RO.opv (v' := .d (enc _)) (opv_load_term rfl rfl rfl) rfl ?_
          refine RO.opv (v' := .d (.int _ _)) (opv_move rfl) rfl ?_
          refine RO.opv (v' := .mp 4) (opv_move rfl) rfl ?_
          refine RO.opc (opv_callP 5 (ih m2 x.1.kids[y.1] y.2.1 b2 seen2 (by omega) hT (by have := bulks_mem (List.getElem_mem hk); omega)) rfl rfl (Nat.le_of_ble_eq_true rfl) rfl (AV.bds_of_B _ rfl)) (fun h6 => ?_) (fun h6 => ?_)
          · try simp only [decide_eq_true_eq, decide_eq_false_iff_not, beq_iff_eq, beq_eq_false_iff_ne, bne_iff_ne, bne_eq_false_iff_eq, Int.not_lt, Int.not_le, ne_eq, Bool.not_eq_true', Bool.not_eq_false', gt_iff_lt, ge_iff_le] at h6
            have hJ := hJ.resolve_right (fun h => by rw [h6] at h; cases h.1)
            refine RO.nil ?_
            refine Runs.condT rfl ?_
            refine Runs.has [(0, .ref 2 0), (2, .d (.int _ _)), (3, .mp 4), (41, .d (.list (encs _))), (42, .d (.int _ _)), (43, .d (.int _ _))] ⟨rfl, rfl, rfl, rfl, rfl, rfl, trivial⟩ ?_
            refine Runs.rseq ?_
            refine RO.opv (v' := .d (.bool true)) (opv_assign rfl) rfl ?_
            refine RO.nil ?_
            refine Runs.ret ?_
            refine blockQ_ret ?_
            refine thenQ_ret ?_
            refine thenQ_ret ?_
            refine blockQ_ret ?_
            refine thenQ_ret ?_
            refine EndQ.tmp (.inr rfl) rfl rfl 5 (by exact Nat.le_refl _) (by simp) trivial ⟨?_, ?_⟩
            · refine bool_eq ?_; exact hJ.2.1.symm
            · rw [hJ.2.2]; rfl
          · try simp only [decide_eq_true_eq, decide_eq_false_iff_not, beq_iff_eq, beq_eq_false_iff_ne, bne_iff_ne, bne_eq_false_iff_eq, Int.not_lt, Int.not_le, ne_eq, Bool.not_eq_true', Bool.not_eq_false', gt_iff_lt, ge_iff_le] at h6
            have hJ := hJ.resolve_left (fun h => by rw [h6] at h; cases h.1)
            refine RO.nil ?_
            refine Runs.condF rfl ?_
            refine Runs.skip ?_
            refine blockQ_normal ?_
            refine thenQ_normal ?_
            refine Runs.has [(0, .ref 2 0), (2, .d (.int _ _)), (3, .mp 4), (41, .d (.list (encs _))), (42, .d (.int _ _)), (43, .d (.int _ _))] ⟨rfl, rfl, rfl, rfl, rfl, rfl, trivial⟩ ?_
            refine Runs.region ?_
            refine RO.opv (v' := .d (.int _ _)) (opv_bin rfl rfl rfl) rfl ?_
            refine RO.opv (v' := .d (.int _ _)) (opv_move rfl) rfl ?_
            refine RO.nil ?_
            refine thenQ_normal ?_
            refine ⟨(y.1 + 1, seen2, m2), 6, (by rw [hK]; exact Nat.le_of_ble_eq_true rfl), ⟨rfl, rfl, rfl, rfl, rfl, trivial⟩, ⟨?_, trivial⟩, rfl, ?_, ?_⟩
            · refine int_eq ?_; rw [wrap64 (by omega) (by omega)]; omega
            · exact ⟨hk, hJ.2, by show m2 ≤ N; omega⟩
            · show x.1.kids.length - (y.1 + 1) < _; omega
        · try simp only [decide_eq_true_eq, decide_eq_false_iff_not, beq_iff_eq, beq_eq_false_iff_ne, bne_iff_ne, bne_eq_false_iff_eq, Int.not_lt, Int.not_le, ne_eq, Bool.not_eq_true', Bool.not_eq_false', gt_iff_lt, ge_iff_le] at h5
          have hk : y.1 = x.1.kids.length := by omega
          have hJ := hj.2.1
          obtain ⟨m2, hm2⟩ := inK_pos hJ
          rw [hm2, hk, List.drop_length] at hJ
          obtain ⟨e1, e2⟩ := inK_nil hJ
          refine RO.nil ?_
          refine Runs.seq ?_
          refine Runs.condF rfl ?_
          refine Runs.exit ?_
          refine thenQ_exit ?_
          refine thenQ_exit ?_
          refine blockQ_here ?_
          refine thenQ_normal ?_
          refine Runs.has [] trivial ?_
          refine Runs.rseq ?_
          refine RO.opv (v' := .d (.bool false)) (opv_assign rfl) rfl ?_
          refine RO.nil ?_
          refine Runs.ret ?_
          refine EndQ.tmp (.inr rfl) rfl rfl 5 (by exact Nat.le_refl _) (by simp) trivial ⟨?_, ?_⟩
          · refine bool_eq ?_; exact e1.symm
          · rw [e2]; rfl
theorem has_store_fn (s : St) (t : Term) (v : Int) (hs : s.small (2 ^ 30)) (hb : t.bulk ≤ 2 ^ 30) : Fn Try.prog 22 [.ref 2 0, .d (enc t), .d (.int .i64 v)] [.buf 88 5 (encCells (s).cs) (s).v1, .buf 3 1 (ints (s).tr) (s).v2, .cells [.own 0 (s).v1, .own 1 (s).v2]] (.d (.bool (s.has v t))) [.buf 88 5 (encCells (s).cs) (s).v1, .buf 3 1 (ints (s).tr) (s).v2, .cells [.own 0 (s).v1, .own 1 (s).v2]] := by
  obtain ⟨seen, hin⟩ := has_in s v t
  refine Does.run Try.func22 rfl Try.ntmps22 rfl fun K hK => ?_
  refine Runs.rseq ?_
  refine RO.opn (v' := .ref 3 0) (O' := [_, _, _, _]) (opv_box_term rfl) rfl rfl ?_
  refine RO.opv (v' := .d (.bool false)) (opv_assign rfl) rfl ?_
  refine RO.nil ?_
  refine Runs.has [(0, .ref 2 0), (2, .d (.int _ _)), (4, .ref 3 0), (6, .d (.bool false))] ⟨rfl, rfl, rfl, rfl, trivial⟩ ?_
  refine Runs.rseq ?_
  refine RO.opv (v' := .ref 2 0) (opv_move rfl) rfl ?_
  refine RO.opv (v' := .d (enc _)) (opv_load_term rfl rfl rfl) rfl ?_
  refine RO.opv (v' := .d (.int _ _)) (opv_move rfl) rfl ?_
  refine RO.opn (v' := .mp 4) (O' := [_, _, _, _, _]) (opv_makeMap) rfl rfl ?_
  refine RO.opn (v' := .d (.bool _)) (O' := [_, _, _, _, _]) (opv_callP 5 (in_aux s v _ hs _ _ t [] _ seen (Nat.le_refl _) hin hb) rfl rfl (Nat.le_of_ble_eq_true rfl) rfl (AV.bds_of_B _ rfl)) rfl rfl ?_
  refine RO.opv (v' := .d (.bool _)) (opv_assign rfl) rfl ?_
  refine RO.nil ?_
  refine Runs.ret ?_
  refine EndQ.tmp (.inr rfl) rfl rfl 3 (by exact Nat.le_refl _) (by simp) trivial ⟨?_, rfl⟩
  rfl
theorem bind_fn (s : St) (v : Int) (t : Term) (hs : s.small (2 ^ 30)) (hb : t.bulk ≤ 2 ^ 30) (hl : s.cs.length ≤ 2 ^ 30) (ht : s.tr.length < 2 ^ 30) : Fn Try.prog 58 [.ref 2 0, .d (.int .i64 v), .d (enc t)] [.buf 88 5 (encCells (s).cs) (s).v1, .buf 3 1 (ints (s).tr) (s).v2, .cells [.own 0 (s).v1, .own 1 (s).v2]] (.d (.int .i64 (s.bind v t).2)) [.buf 88 5 (encCells ((s.bind v t).1).cs) ((s.bind v t).1).v1, .buf 3 1 (ints ((s.bind v t).1).tr) ((s.bind v t).1).v2, .cells [.own 0 ((s.bind v t).1).v1, .own 1 ((s.bind v t).1).v2]] := by
  refine Does.run Try.func58 rfl Try.ntmps58 rfl fun K hK => ?_
  refine Runs.rseq ?_
  refine RO.opn (v' := .ref 3 0) (O' := [_, _, _, _]) (opv_box_term rfl) rfl rfl ?_
  refine RO.opv (v' := .d (.int _ _)) (opv_assign rfl) rfl ?_
  refine RO.nil ?_
  refine Runs.has [(0, .ref 2 0), (1, .d (.int _ _)), (5, .ref 3 0), (6, .d (.int _ _))] ⟨rfl, rfl, rfl, rfl, trivial⟩ ?_
  refine Runs.seq ?_
  refine Runs.block ?_
  refine Runs.rseq ?_
  refine RO.opv (v' := .ref 2 0) (opv_move rfl) rfl ?_
  refine RO.opv (v' := .d (.bool false)) (opv_eqnil_ref rfl rfl rfl) rfl ?_
  refine RO.opv (v' := .d (.bool false)) (opv_move rfl) rfl ?_
  refine RO.opgv (v' := .d (.int _ _)) rfl (opv_move rfl) rfl ?_
  refine RO.opgv (v' := .d (.bool _)) rfl (opv_bin rfl rfl rfl) rfl ?_
  refine RO.opv (v' := .d (.bool _)) (opv_pick rfl rfl) rfl ?_
  refine RO.opc (opv_move rfl) (fun h1 => ?_) (fun h1 => ?_)
  · try simp only [decide_eq_true_eq, decide_eq_false_iff_not, beq_iff_eq, beq_eq_false_iff_ne, bne_iff_ne, bne_eq_false_iff_eq, Int.not_lt, Int.not_le, ne_eq, Bool.not_eq_true', Bool.not_eq_false', gt_iff_lt, ge_iff_le] at h1
    have hv : v < 0 ∨ (s.cs.length : Int) ≤ v := by omega
    refine RO.off rfl ?_
    refine RO.off rfl ?_
    refine RO.off rfl ?_
    refine RO.off rfl ?_
    refine RO.off rfl ?_
    refine RO.off rfl ?_
    refine RO.off rfl ?_
    refine RO.opv (v' := .d (.bool true)) (opv_pick rfl rfl) rfl ?_
    refine RO.opv (v' := .d (.bool true)) (opv_assign rfl) rfl ?_
    refine RO.nil ?_
    refine Runs.condT rfl ?_
    refine Runs.has [(0, .ref 2 0), (1, .d (.int _ _)), (5, .ref 3 0), (6, .d (.int _ _))] ⟨rfl, rfl, rfl, rfl, trivial⟩ ?_
    refine Runs.rseq ?_
    refine RO.opv (v' := .d (.int _ _)) (opv_assign rfl) rfl ?_
    refine RO.nil ?_
    refine Runs.ret ?_
    refine blockQ_ret ?_
    refine thenQ_ret ?_
    refine EndQ.tmp (.inr rfl) rfl rfl 3 (by exact Nat.le_refl _) (by simp) trivial ⟨?_, ?_⟩
    · simp only [St.bind, if_pos hv]; rfl
    · simp only [St.bind, if_pos hv]; rfl
  · try simp only [decide_eq_true_eq, decide_eq_false_iff_not, beq_iff_eq, beq_eq_false_iff_ne, bne_iff_ne, bne_eq_false_iff_eq, Int.not_lt, Int.not_le, ne_eq, Bool.not_eq_true', Bool.not_eq_false', gt_iff_lt, ge_iff_le] at h1
    skip
    refine RO.opgv (v' := .d (.int _ _)) rfl (opv_move rfl) rfl ?_
    refine RO.opgv (v' := .ref 2 0) rfl (opv_move rfl) rfl ?_
    refine RO.opgv (v' := .ref 2 0) rfl (opv_nilCheck_ref rfl rfl) rfl ?_
    refine RO.opgv (v' := .ref 2 0) rfl (opv_field_ref rfl rfl) rfl ?_
    refine RO.opgv (v' := .own 0 _) rfl (opv_load_ref rfl rfl rfl) rfl ?_
    refine RO.opgv (v' := .d (.int _ _)) rfl (opv_len_cells rfl rfl) rfl ?_
    refine RO.opgv (v' := .d (.bool _)) rfl (opv_bin rfl rfl rfl) rfl ?_
    refine RO.opv (v' := .d (.bool _)) (opv_pick rfl rfl) rfl ?_
    refine RO.opc (opv_assign rfl) (fun h2 => ?_) (fun h2 => ?_)
    · try simp only [decide_eq_true_eq, decide_eq_false_iff_not, beq_iff_eq, beq_eq_false_iff_ne, bne_iff_ne, bne_eq_false_iff_eq, Int.not_lt, Int.not_le, ne_eq, Bool.not_eq_true', Bool.not_eq_false', gt_iff_lt, ge_iff_le] at h2
      have hv : v < 0 ∨ (s.cs.length : Int) ≤ v := by omega
      refine RO.nil ?_
      refine Runs.condT rfl ?_
      refine Runs.has [(0, .ref 2 0), (1, .d (.int _ _)), (5, .ref 3 0), (6, .d (.int _ _))] ⟨rfl, rfl, rfl, rfl, trivial⟩ ?_
      refine Runs.rseq ?_
      refine RO.opv (v' := .d (.int _ _)) (opv_assign rfl) rfl ?_
      refine RO.nil ?_
      refine Runs.ret ?_
      refine blockQ_ret ?_
      refine thenQ_ret ?_
      refine EndQ.tmp (.inr rfl) rfl rfl 3 (by exact Nat.le_refl _) (by simp) trivial ⟨?_, ?_⟩
      · simp only [St.bind, if_pos hv]; rfl
      · simp only [St.bind, if_pos hv]; rfl
    · try simp only [decide_eq_true_eq, decide_eq_false_iff_not, beq_iff_eq, beq_eq_false_iff_ne, bne_iff_ne, bne_eq_false_iff_eq, Int.not_lt, Int.not_le, ne_eq, Bool.not_eq_true', Bool.not_eq_false', gt_iff_lt, ge_iff_le] at h2
      have hv : ¬ (v < 0 ∨ (s.cs.length : Int) ≤ v) := by omega
      refine RO.nil ?_
      refine Runs.condF rfl ?_
      refine Runs.has [(0, .ref 2 0), (1, .d (.int _ _)), (5, .ref 3 0), (6, .d (.int _ _))] ⟨rfl, rfl, rfl, rfl, trivial⟩ ?_
      refine Runs.rseq ?_
      refine RO.opv (v' := .ref 2 0) (opv_move rfl) rfl ?_
      refine RO.opv (v' := .ref 2 0) (opv_nilCheck_ref rfl rfl) rfl ?_
      refine RO.opv (v' := .ref 2 0) (opv_field_ref rfl rfl) rfl ?_
      refine RO.opv (v' := .own 0 _) (opv_load_ref rfl rfl rfl) rfl ?_
      refine RO.opv (v' := .d (.int _ _)) (opv_move rfl) rfl ?_
      refine RO.opv (v' := .oel 0 _ _ 0) (opv_index_cells rfl rfl rfl (by omega) (by omega)) rfl ?_
      refine RO.opv (v' := .oel 0 _ _ 0) (opv_field_oel rfl rfl) rfl ?_
      refine RO.opv (v' := .d (.bool _)) (opv_load_bound rfl rfl (cs_join (by omega))) rfl ?_
      refine RO.opc (opv_assign rfl) (fun h3 => ?_) (fun h3 => ?_)
      · try simp only [decide_eq_true_eq, decide_eq_false_iff_not, beq_iff_eq, beq_eq_false_iff_ne, bne_iff_ne, bne_eq_false_iff_eq, Int.not_lt, Int.not_le, ne_eq, Bool.not_eq_true', Bool.not_eq_false', gt_iff_lt, ge_iff_le] at h3
        have hj := h3
        refine RO.nil ?_
        refine Runs.condT rfl ?_
        refine Runs.has [(0, .ref 2 0), (1, .d (.int _ _)), (5, .ref 3 0), (6, .d (.int _ _))] ⟨rfl, rfl, rfl, rfl, trivial⟩ ?_
        refine Runs.rseq ?_
        refine RO.opv (v' := .d (.int _ _)) (opv_assign rfl) rfl ?_
        refine RO.nil ?_
        refine Runs.ret ?_
        refine blockQ_ret ?_
        refine thenQ_ret ?_
        refine EndQ.tmp (.inr rfl) rfl rfl 3 (by exact Nat.le_refl _) (by simp) trivial ⟨?_, ?_⟩
        · simp only [St.bind, if_neg hv, hj, if_true]; rfl
        · simp only [St.bind, if_neg hv, hj, if_true]; rfl
      · try simp only [decide_eq_true_eq, decide_eq_false_iff_not, beq_iff_eq, beq_eq_false_iff_ne, bne_iff_ne, bne_eq_false_iff_eq, Int.not_lt, Int.not_le, ne_eq, Bool.not_eq_true', Bool.not_eq_false', gt_iff_lt, ge_iff_le] at h3
        have hj := h3
        refine RO.nil ?_
        refine Runs.condF rfl ?_
        refine Runs.has [(0, .ref 2 0), (1, .d (.int _ _)), (5, .ref 3 0), (6, .d (.int _ _))] ⟨rfl, rfl, rfl, rfl, trivial⟩ ?_
        refine Runs.rseq ?_
        refine RO.opv (v' := .ref 2 0) (opv_move rfl) rfl ?_
        refine RO.opv (v' := .d (enc _)) (opv_load_term rfl rfl rfl) rfl ?_
        refine RO.opv (v' := .d (.int _ _)) (opv_move rfl) rfl ?_
        refine RO.opn (v' := .d (.bool _)) (O' := [_, _, _, _]) (opv_callP 3 (has_store_fn s t v hs hb) rfl rfl (Nat.le_of_ble_eq_true rfl) rfl (AV.bds_of_B _ rfl)) rfl rfl ?_
        refine RO.opc (opv_assign rfl) (fun h4 => ?_) (fun h4 => ?_)
        · try simp only [decide_eq_true_eq, decide_eq_false_iff_not, beq_iff_eq, beq_eq_false_iff_ne, bne_iff_ne, bne_eq_false_iff_eq, Int.not_lt, Int.not_le, ne_eq, Bool.not_eq_true', Bool.not_eq_false', gt_iff_lt, ge_iff_le] at h4
          have hh := h4
          refine RO.nil ?_
          refine Runs.condT rfl ?_
          refine Runs.has [(0, .ref 2 0), (1, .d (.int _ _)), (5, .ref 3 0), (6, .d (.int _ _))] ⟨rfl, rfl, rfl, rfl, trivial⟩ ?_
          refine Runs.rseq ?_
          refine RO.opv (v' := .d (.int _ _)) (opv_assign rfl) rfl ?_
          refine RO.nil ?_
          refine Runs.ret ?_
          refine blockQ_ret ?_
          refine thenQ_ret ?_
          refine EndQ.tmp (.inr rfl) rfl rfl 3 (by exact Nat.le_refl _) (by simp) trivial ⟨?_, ?_⟩
          · simp only [St.bind, if_neg hv, hj, hh, if_true, Bool.false_eq_true, if_false]; rfl
          · simp only [St.bind, if_neg hv, hj, hh, if_true, Bool.false_eq_true, if_false]; rfl
        · try simp only [decide_eq_true_eq, decide_eq_false_iff_not, beq_iff_eq, beq_eq_false_iff_ne, bne_iff_ne, bne_eq_false_iff_eq, Int.not_lt, Int.not_le, ne_eq, Bool.not_eq_true', Bool.not_eq_false', gt_iff_lt, ge_iff_le] at h4
          have hh := h4
          refine RO.nil ?_
          refine Runs.condF rfl ?_
          refine Runs.skip ?_
          refine blockQ_normal ?_
          refine thenQ_normal ?_
          refine Runs.has [(0, .ref 2 0), (1, .d (.int _ _)), (5, .ref 3 0), (6, .d (.int _ _))] ⟨rfl, rfl, rfl, rfl, trivial⟩ ?_
          refine Runs.seq ?_
          refine Runs.drawn (by kernel_rfl) [] [false, false, false, false, false, false, false, false, false] [false, false, false, false, false, false, false, false, true] (by decide +kernel) ?_
          refine RD.opv (v' := .ref 2 0) (opv_move rfl) rfl ?_
          refine RD.opv (v' := .ref 2 0) (opv_nilCheck_ref rfl rfl) rfl ?_
          refine RD.opv (v' := .ref 2 0) (opv_field_ref rfl rfl) rfl ?_
          refine RD.opv (v' := .own 0 _) (opv_load_ref rfl rfl rfl) rfl ?_
          refine RD.opv (v' := .d (.int _ _)) (opv_move rfl) rfl ?_
          refine RD.opv (v' := .d (enc _)) (opv_load_term rfl rfl rfl) rfl ?_
          refine RD.opv (v' := .d (encCell (some _))) (opv_build_cell rfl rfl) rfl ?_
          refine RD.opv (v' := .oel 0 _ _ 0) (opv_index_cells rfl rfl rfl (by omega) (by omega)) rfl ?_
          refine RD.op0n (O' := [_, _, _, _]) (opv_store_cell rfl rfl rfl (by omega)) rfl trivial ?_
          refine RD.nil ?_
          refine thenQ_normal ?_
          refine Runs.has [(0, .ref 2 0), (1, .d (.int _ _)), (6, .d (.int _ _))] ⟨rfl, rfl, rfl, trivial⟩ ?_
          refine Runs.rseq ?_
          refine RO.opv (v' := .ref 2 0) (opv_move rfl) rfl ?_
          refine RO.opv (v' := .ref 2 0) (opv_move rfl) rfl ?_
          refine RO.opv (v' := .ref 2 0) (opv_nilCheck_ref rfl rfl) rfl ?_
          refine RO.opv (v' := .ref 2 1) (opv_field_ref rfl rfl) rfl ?_
          refine RO.opv (v' := .own 1 _) (opv_load_ref rfl rfl rfl) rfl ?_
          refine RO.opv (v' := .d (.int _ _)) (opv_move rfl) rfl ?_
          refine RO.opv (v' := .d (.list (ints _))) (opv_bs_int1 rfl ) rfl ?_
          refine RO.opn (v' := .own 1 _) (O' := [_, _, _, _]) (opv_append_ints rfl rfl rfl (by simp; omega)) rfl rfl ?_
          refine RO.opv (v' := .ref 2 0) (opv_nilCheck_ref rfl rfl) rfl ?_
          refine RO.opv (v' := .ref 2 1) (opv_field_ref rfl rfl) rfl ?_
          refine RO.op0n (O' := [_, _, _, _]) (opv_store_ref rfl rfl rfl rfl rfl (Nat.le_of_ble_eq_true rfl) rfl) rfl ?_
          refine RO.nil ?_
          refine Runs.has [(6, .d (.int _ _))] ⟨rfl, trivial⟩ ?_
          refine Runs.rseq ?_
          refine RO.opv (v' := .d (.int _ _)) (opv_assign rfl) rfl ?_
          refine RO.nil ?_
          refine Runs.ret ?_
          refine EndQ.tmp (.inr rfl) rfl rfl 3 (by exact Nat.le_refl _) (by simp) trivial ⟨?_, ?_⟩
          · simp only [St.bind, if_neg hv, hj, hh, Bool.false_eq_true, if_false]; rfl
          · simp only [St.bind, if_neg hv, hj, hh, Bool.false_eq_true, if_false]; rfl
theorem fresh_fn (s : St) (n : Int) (hl : s.cs.length ≤ 4096) : Fn Try.prog 29 [.ref 2 0, .d (.int .i64 n)] [.buf 88 5 (encCells (s).cs) (s).v1, .buf 3 1 (ints (s).tr) (s).v2, .cells [.own 0 (s).v1, .own 1 (s).v2]] (.tup [.d (.int .i64 (s.fresh n).2.1), .d (.int .i64 (s.fresh n).2.2)]) [.buf 88 5 (encCells ((s.fresh n).1).cs) ((s.fresh n).1).v1, .buf 3 1 (ints ((s.fresh n).1).tr) ((s.fresh n).1).v2, .cells [.own 0 ((s.fresh n).1).v1, .own 1 ((s.fresh n).1).v2]] := by
  refine Does.run Try.func29 rfl Try.ntmps29 rfl fun K hK => ?_
  refine Runs.rseq ?_
  refine RO.opv (v' := .d (.int _ _)) (opv_assign rfl) rfl ?_
  refine RO.opv (v' := .d (.int _ _)) (opv_assign rfl) rfl ?_
  refine RO.nil ?_
  refine Runs.seq ?_
  refine Runs.block ?_
  refine Runs.rseq ?_
  refine RO.opv (v' := .ref 2 0) (opv_move rfl) rfl ?_
  refine RO.opv (v' := .d (.bool false)) (opv_eqnil_ref rfl rfl rfl) rfl ?_
  refine RO.opv (v' := .d (.bool false)) (opv_assign rfl) rfl ?_
  refine RO.nil ?_
  refine Runs.condF rfl ?_
  refine Runs.has [(0, .ref 2 0), (1, .d (.int _ _)), (4, .d (.int _ _)), (5, .d (.int _ _))] ⟨rfl, rfl, rfl, rfl, trivial⟩ ?_
  refine Runs.rseq ?_
  refine RO.opv (v' := .d (.int _ _)) (opv_move rfl) rfl ?_
  refine RO.opv (v' := .d (.bool _)) (opv_bin rfl rfl rfl) rfl ?_
  refine RO.opc (opv_assign rfl) (fun h1 => ?_) (fun h1 => ?_)
  · try simp only [decide_eq_true_eq, decide_eq_false_iff_not, beq_iff_eq, beq_eq_false_iff_ne, bne_iff_ne, bne_eq_false_iff_eq, Int.not_lt, Int.not_le, ne_eq, Bool.not_eq_true', Bool.not_eq_false', gt_iff_lt, ge_iff_le] at h1
    have hn := h1
    refine RO.nil ?_
    refine Runs.condT rfl ?_
    refine Runs.has [(0, .ref 2 0), (1, .d (.int _ _)), (4, .d (.int _ _)), (5, .d (.int _ _))] ⟨rfl, rfl, rfl, rfl, trivial⟩ ?_
    refine Runs.rseq ?_
    refine RO.opv (v' := .d (.int _ _)) (opv_assign rfl) rfl ?_
    refine RO.opv (v' := .d (.int _ _)) (opv_assign rfl) rfl ?_
    refine RO.nil ?_
    refine Runs.ret ?_
    refine blockQ_ret ?_
    refine thenQ_ret ?_
    refine EndQ.tmps2 (.inr rfl) rfl rfl rfl 3 (by exact Nat.le_refl _) (by simp) ⟨trivial, trivial, trivial⟩ ⟨?_, ?_⟩
    · simp only [St.fresh, if_pos hn]; rfl
    · simp only [St.fresh, if_pos hn]; rfl
  · try simp only [decide_eq_true_eq, decide_eq_false_iff_not, beq_iff_eq, beq_eq_false_iff_ne, bne_iff_ne, bne_eq_false_iff_eq, Int.not_lt, Int.not_le, ne_eq, Bool.not_eq_true', Bool.not_eq_false', gt_iff_lt, ge_iff_le] at h1
    have hn : ¬ n < 0 := by omega
    refine RO.nil ?_
    refine Runs.condF rfl ?_
    refine Runs.has [(0, .ref 2 0), (1, .d (.int _ _)), (4, .d (.int _ _)), (5, .d (.int _ _))] ⟨rfl, rfl, rfl, rfl, trivial⟩ ?_
    refine Runs.rseq ?_
    refine RO.opv (v' := .d (.int _ _)) (opv_move rfl) rfl ?_
    refine RO.opv (v' := .ref 2 0) (opv_move rfl) rfl ?_
    refine RO.opv (v' := .ref 2 0) (opv_nilCheck_ref rfl rfl) rfl ?_
    refine RO.opv (v' := .ref 2 0) (opv_field_ref rfl rfl) rfl ?_
    refine RO.opv (v' := .own 0 _) (opv_load_ref rfl rfl rfl) rfl ?_
    refine RO.opv (v' := .d (.int _ _)) (opv_len_cells rfl rfl) rfl ?_
    refine RO.opv (v' := .d (.int _ _)) (opv_arith rfl rfl (binD_sub (r := 4096 - (s.cs.length : Int)) (wrap64 (by omega) (by omega)))) rfl ?_
    refine RO.opv (v' := .d (.bool _)) (opv_bin rfl rfl rfl) rfl ?_
    refine RO.opc (opv_assign rfl) (fun h2 => ?_) (fun h2 => ?_)
    · try simp only [decide_eq_true_eq, decide_eq_false_iff_not, beq_iff_eq, beq_eq_false_iff_ne, bne_iff_ne, bne_eq_false_iff_eq, Int.not_lt, Int.not_le, ne_eq, Bool.not_eq_true', Bool.not_eq_false', gt_iff_lt, ge_iff_le] at h2
      have hf : n > 4096 - (s.cs.length : Int) := by omega
      refine RO.nil ?_
      refine Runs.condT rfl ?_
      refine Runs.has [(0, .ref 2 0), (1, .d (.int _ _)), (4, .d (.int _ _)), (5, .d (.int _ _))] ⟨rfl, rfl, rfl, rfl, trivial⟩ ?_
      refine Runs.rseq ?_
      refine RO.opv (v' := .d (.int _ _)) (opv_assign rfl) rfl ?_
      refine RO.opv (v' := .d (.int _ _)) (opv_assign rfl) rfl ?_
      refine RO.nil ?_
      refine Runs.ret ?_
      refine blockQ_ret ?_
      refine thenQ_ret ?_
      refine EndQ.tmps2 (.inr rfl) rfl rfl rfl 3 (by exact Nat.le_refl _) (by simp) ⟨trivial, trivial, trivial⟩ ⟨?_, ?_⟩
      · simp only [St.fresh, if_neg hn, if_pos hf]; rfl
      · simp only [St.fresh, if_neg hn, if_pos hf]; rfl
    · try simp only [decide_eq_true_eq, decide_eq_false_iff_not, beq_iff_eq, beq_eq_false_iff_ne, bne_iff_ne, bne_eq_false_iff_eq, Int.not_lt, Int.not_le, ne_eq, Bool.not_eq_true', Bool.not_eq_false', gt_iff_lt, ge_iff_le] at h2
      have hf : ¬ n > 4096 - (s.cs.length : Int) := by omega
      obtain ⟨m, rfl⟩ : ∃ m : Nat, n = (m : Int) := ⟨n.toNat, by omega⟩
      refine RO.nil ?_
      refine Runs.condF rfl ?_
      refine Runs.skip ?_
      refine blockQ_normal ?_
      refine thenQ_normal ?_
      refine Runs.has [(0, .ref 2 0), (1, .d (.int _ _)), (4, .d (.int _ _)), (5, .d (.int _ _))] ⟨rfl, rfl, rfl, rfl, trivial⟩ ?_
      refine Runs.rseq ?_
      refine RO.opv (v' := .ref 2 0) (opv_move rfl) rfl ?_
      refine RO.opv (v' := .ref 2 0) (opv_nilCheck_ref rfl rfl) rfl ?_
      refine RO.opv (v' := .ref 2 0) (opv_field_ref rfl rfl) rfl ?_
      refine RO.opv (v' := .own 0 _) (opv_load_ref rfl rfl rfl) rfl ?_
      refine RO.opv (v' := .d (.int _ _)) (opv_len_cells rfl rfl) rfl ?_
      refine RO.opv (v' := .d (.int _ _)) (opv_assign rfl) rfl ?_
      refine RO.nil ?_
      refine Runs.has [(0, .ref 2 0), (1, .d (.int _ _)), (4, .d (.int _ _)), (5, .d (.int _ _)), (6, .d (.int _ _))] ⟨rfl, rfl, rfl, rfl, rfl, trivial⟩ ?_
      refine Runs.rseq ?_
      refine RO.opv (v' := .ref 2 0) (opv_move rfl) rfl ?_
      refine RO.opv (v' := .ref 2 0) (opv_move rfl) rfl ?_
      refine RO.opv (v' := .ref 2 0) (opv_nilCheck_ref rfl rfl) rfl ?_
      refine RO.opv (v' := .ref 2 0) (opv_field_ref rfl rfl) rfl ?_
      refine RO.opv (v' := .own 0 _) (opv_load_ref rfl rfl rfl) rfl ?_
      refine RO.opv (v' := .d (.int _ _)) (opv_move rfl) rfl ?_
      refine RO.opn (v' := .own 0 _) (O' := [_, _, _]) (opv_append_cells0 rfl rfl rfl (by omega)) rfl rfl ?_
      refine RO.opv (v' := .ref 2 0) (opv_nilCheck_ref rfl rfl) rfl ?_
      refine RO.opv (v' := .ref 2 0) (opv_field_ref rfl rfl) rfl ?_
      refine RO.op0n (O' := [_, _, _]) (opv_store_ref rfl rfl rfl rfl rfl (Nat.le_of_ble_eq_true rfl) rfl) rfl ?_
      refine RO.nil ?_
      refine Runs.has [(4, .d (.int _ _)), (5, .d (.int _ _)), (6, .d (.int _ _))] ⟨rfl, rfl, rfl, trivial⟩ ?_
      refine Runs.rseq ?_
      refine RO.opv (v' := .d (.int _ _)) (opv_move rfl) rfl ?_
      refine RO.opv (v' := .d (.int _ _)) (opv_assign rfl) rfl ?_
      refine RO.opv (v' := .d (.int _ _)) (opv_assign rfl) rfl ?_
      refine RO.nil ?_
      refine Runs.ret ?_
      refine EndQ.tmps2 (.inr rfl) rfl rfl rfl 3 (by exact Nat.le_refl _) (by simp) ⟨trivial, trivial, trivial⟩ ⟨?_, ?_⟩
      · simp only [St.fresh, if_neg hn, if_neg hf]; rfl
      · simp only [St.fresh, if_neg hn, if_neg hf, Int.toNat_natCast]; rfl
theorem mark_fn (s : St) : Fn Try.prog 19 [.ref 2 0] [.buf 88 5 (encCells (s).cs) (s).v1, .buf 3 1 (ints (s).tr) (s).v2, .cells [.own 0 (s).v1, .own 1 (s).v2]] (.d (.int .i64 s.tr.length)) [.buf 88 5 (encCells (s).cs) (s).v1, .buf 3 1 (ints (s).tr) (s).v2, .cells [.own 0 (s).v1, .own 1 (s).v2]] := by
  refine Does.run Try.func19 rfl Try.ntmps19 rfl fun K hK => ?_
  refine Runs.rseq ?_
  refine RO.opv (v' := .d (.int _ _)) (opv_assign rfl) rfl ?_
  refine RO.nil ?_
  refine Runs.seq ?_
  refine Runs.rseq ?_
  refine RO.opv (v' := .ref 2 0) (opv_move rfl) rfl ?_
  refine RO.opv (v' := .d (.bool false)) (opv_eqnil_ref rfl rfl rfl) rfl ?_
  refine RO.nil ?_
  refine Runs.condF rfl ?_
  refine Runs.skip ?_
  refine thenQ_normal ?_
  refine Runs.has [(0, .ref 2 0), (2, .d (.int _ _))] ⟨rfl, rfl, trivial⟩ ?_
  refine Runs.rseq ?_
  refine RO.opv (v' := .ref 2 0) (opv_move rfl) rfl ?_
  refine RO.opv (v' := .ref 2 0) (opv_nilCheck_ref rfl rfl) rfl ?_
  refine RO.opv (v' := .ref 2 1) (opv_field_ref rfl rfl) rfl ?_
  refine RO.opv (v' := .own 1 _) (opv_load_ref rfl rfl rfl) rfl ?_
  refine RO.opv (v' := .d (.int _ _)) (opv_len_oints rfl rfl) rfl ?_
  refine RO.opv (v' := .d (.int _ _)) (opv_assign rfl) rfl ?_
  refine RO.nil ?_
  refine Runs.ret ?_
  refine EndQ.tmp (.inr rfl) rfl rfl 3 (by exact Nat.le_refl _) (by simp) trivial ⟨?_, rfl⟩
  rfl
theorem fill_aux (s : St) (a c : AObj) (hs : s.small (2 ^ 30)) (hw : ∀ t, s.look (s.wk t) = none) : ∀ (N m : Nat) (t : Term) (l e : Int), m < N → m ≤ 60 → t.bulk ≤ 2 ^ 30 → Fn Try.prog 40 [.ref 5 0, .d (enc t), .d (.int .i64 (61 - (m : Int)))] [.buf 88 5 (encCells (s).cs) (s).v1, .buf 3 1 (ints (s).tr) (s).v2, .cells [.own 0 (s).v1, .own 1 (s).v2], a, c, .cells [.ref 2 0, .d (.int .i64 l), .d (.int .i64 e)]] (.d (enc (fillT s.wk m t l e).1)) [.buf 88 5 (encCells (s).cs) (s).v1, .buf 3 1 (ints (s).tr) (s).v2, .cells [.own 0 (s).v1, .own 1 (s).v2], a, c, .cells [.ref 2 0, .d (.int .i64 (fillT s.wk m t l e).2.1), .d (.int .i64 (fillT s.wk m t l e).2.2)]] := by
  intro N
  induction N with
  | zero => intro m t l e h; omega
  | succ N ih =>
  intro m t l e hN hm hb
  have hb2 := wk_bulk hs t hb
  have hU := (s.wk t).bulk_kids
  have hL := bulks_len (s.wk t).kids
  refine Does.run Try.func40 rfl Try.ntmps40 rfl fun K hK => ?_
  refine Runs.rseq ?_
  refine RO.opn (v' := .ref 6 0) (O' := [_, _, _, _, _, _, _]) (opv_box_term rfl) rfl rfl ?_
  refine RO.opn (v' := .ref 7 0) (O' := [_, _, _, _, _, _, _, _]) (opv_alloc) rfl rfl ?_
  refine RO.nil ?_
  refine Runs.has [(0, .ref 5 0), (2, .d (.int _ _)), (4, .ref 6 0), (6, .ref 7 0)] ⟨rfl, rfl, rfl, rfl, trivial⟩ ?_
  refine Runs.seq ?_
  refine Runs.drawn (by kernel_rfl) [] [false, false, false, false, false, false, false] [false, false, false, false, false, false, true] (by decide +kernel) ?_
  refine RD.opv (v' := .ref 5 0) (opv_move rfl) rfl ?_
  refine RD.opv (v' := .ref 5 0) (opv_nilCheck_ref rfl rfl) rfl ?_
  refine RD.opv (v' := .ref 5 0) (opv_field_ref rfl rfl) rfl ?_
  refine RD.opv (v' := .ref 2 0) (opv_load_ref rfl rfl rfl) rfl ?_
  refine RD.opv (v' := .d (enc _)) (opv_load_term rfl rfl rfl) rfl ?_
  refine RD.opq (v' := .d (enc _)) (opv_callP 3 (wk_fn s t (hw t)) rfl rfl (Nat.le_of_ble_eq_true rfl) rfl (AV.bds_of_B _ rfl)) rfl rfl ?_
  refine RD.op0n (O' := [_, _, _, _, _, _, _, _]) (opv_store_term rfl rfl rfl (Nat.le_of_ble_eq_true rfl)) rfl trivial ?_
  refine RD.nil ?_
  refine thenQ_normal ?_
  refine Runs.has [(0, .ref 5 0), (2, .d (.int _ _)), (4, .ref 6 0), (6, .ref 7 0)] ⟨rfl, rfl, rfl, rfl, trivial⟩ ?_
  refine Runs.seq ?_
  refine Runs.rseq ?_
  refine RO.opv (v' := .ref 5 0) (opv_move rfl) rfl ?_
  refine RO.opv (v' := .ref 5 0) (opv_nilCheck_ref rfl rfl) rfl ?_
  refine RO.opv (v' := .ref 5 2) (opv_field_ref rfl rfl) rfl ?_
  refine RO.opv (v' := .d (.int _ _)) (opv_load_ref rfl rfl rfl) rfl ?_
  refine RO.opv (v' := .d (.bool _)) (opv_bin rfl rfl rfl) rfl ?_
  refine RO.opc (opv_move rfl) (fun h1 => ?_) (fun h1 => ?_)
  · try simp only [decide_eq_true_eq, decide_eq_false_iff_not, beq_iff_eq, beq_eq_false_iff_ne, bne_iff_ne, bne_eq_false_iff_eq, Int.not_lt, Int.not_le, ne_eq, Bool.not_eq_true', Bool.not_eq_false', gt_iff_lt, ge_iff_le] at h1
    refine RO.opgv (v' := .d (.int _ _)) rfl (opv_move rfl) rfl ?_
    refine RO.opgv (v' := .d (.bool _)) rfl (opv_bin rfl rfl rfl) rfl ?_
    refine RO.opc (opv_pick rfl rfl) (fun h2 => ?_) (fun h2 => ?_)
    · try simp only [decide_eq_true_eq, decide_eq_false_iff_not, beq_iff_eq, beq_eq_false_iff_ne, bne_iff_ne, bne_eq_false_iff_eq, Int.not_lt, Int.not_le, ne_eq, Bool.not_eq_true', Bool.not_eq_false', gt_iff_lt, ge_iff_le] at h2
      refine RO.nil ?_
      refine Runs.condT rfl ?_
      refine Runs.has [(0, .ref 5 0), (2, .d (.int _ _)), (4, .ref 6 0), (6, .ref 7 0)] ⟨rfl, rfl, rfl, rfl, trivial⟩ ?_
      refine Runs.region ?_
      refine RO.opv (v' := .ref 5 0) (opv_move rfl) rfl ?_
      refine RO.opv (v' := .ref 5 0) (opv_nilCheck_ref rfl rfl) rfl ?_
      refine RO.opv (v' := .ref 5 2) (opv_field_ref rfl rfl) rfl ?_
      refine RO.op0n (O' := [_, _, _, _, _, _, _, _]) (opv_store_ref rfl rfl rfl rfl rfl (Nat.le_of_ble_eq_true rfl) rfl) rfl ?_
      refine RO.nil ?_
      refine thenQ_normal ?_
      refine Runs.has [(0, .ref 5 0), (2, .d (.int _ _)), (4, .ref 6 0), (6, .ref 7 0)] ⟨rfl, rfl, rfl, rfl, trivial⟩ ?_
      refine Runs.seq ?_
      refine Runs.rseq ?_
      refine RO.opv (v' := .ref 5 0) (opv_move rfl) rfl ?_
      refine RO.opv (v' := .ref 5 0) (opv_nilCheck_ref rfl rfl) rfl ?_
      refine RO.opv (v' := .ref 5 1) (opv_field_ref rfl rfl) rfl ?_
      refine RO.opv (v' := .d (.int _ _)) (opv_load_ref rfl rfl rfl) rfl ?_
      refine RO.opv (v' := .d (.int _ _)) (opv_bin rfl rfl rfl) rfl ?_
      refine RO.opv (v' := .ref 5 0) (opv_nilCheck_ref rfl rfl) rfl ?_
      refine RO.opv (v' := .ref 5 1) (opv_field_ref rfl rfl) rfl ?_
      refine RO.op0n (O' := [_, _, _, _, _, _, _, _]) (opv_store_ref rfl rfl rfl rfl rfl (Nat.le_of_ble_eq_true rfl) rfl) rfl ?_
      refine RO.nil ?_
      refine Runs.has [(0, .ref 5 0), (2, .d (.int _ _)), (4, .ref 6 0), (6, .ref 7 0)] ⟨rfl, rfl, rfl, rfl, trivial⟩ ?_
      refine Runs.rseq ?_
      refine RO.opv (v' := .ref 5 0) (opv_move rfl) rfl ?_
      refine RO.opv (v' := .ref 5 0) (opv_nilCheck_ref rfl rfl) rfl ?_
      refine RO.opv (v' := .ref 5 2) (opv_field_ref rfl rfl) rfl ?_
      refine RO.opv (v' := .d (.int _ _)) (opv_load_ref rfl rfl rfl) rfl ?_
      refine RO.opv (v' := .d (.bool _)) (opv_bin rfl rfl rfl) rfl ?_
      refine RO.opc (opv_move rfl) (fun h3 => ?_) (fun h3 => ?_)
      · try simp only [decide_eq_true_eq, decide_eq_false_iff_not, beq_iff_eq, beq_eq_false_iff_ne, bne_iff_ne, bne_eq_false_iff_eq, Int.not_lt, Int.not_le, ne_eq, Bool.not_eq_true', Bool.not_eq_false', gt_iff_lt, ge_iff_le] at h3
        omega
      · try simp only [decide_eq_true_eq, decide_eq_false_iff_not, beq_iff_eq, beq_eq_false_iff_ne, bne_iff_ne, bne_eq_false_iff_eq, Int.not_lt, Int.not_le, ne_eq, Bool.not_eq_true', Bool.not_eq_false', gt_iff_lt, ge_iff_le] at h3
        refine RO.off rfl ?_
        refine RO.off rfl ?_
        refine RO.off rfl ?_
        refine RO.off rfl ?_
        refine RO.off rfl ?_
        refine RO.opv (v' := .d (.bool false)) (opv_pick rfl rfl) rfl ?_
        refine RO.nil ?_
        refine Runs.condF rfl ?_
        refine Runs.skip ?_
        refine thenQ_normal ?_
        refine Runs.has [(0, .ref 5 0), (2, .d (.int _ _)), (4, .ref 6 0), (6, .ref 7 0)] ⟨rfl, rfl, rfl, rfl, trivial⟩ ?_
        refine Runs.seq ?_
        refine Runs.rseq ?_
        refine RO.opv (v' := .ref 5 0) (opv_move rfl) rfl ?_
        refine RO.opv (v' := .ref 5 0) (opv_nilCheck_ref rfl rfl) rfl ?_
        refine RO.opv (v' := .ref 5 2) (opv_field_ref rfl rfl) rfl ?_
        refine RO.opv (v' := .d (.int _ _)) (opv_load_ref rfl rfl rfl) rfl ?_
        refine RO.opc (opv_bin rfl rfl rfl) (fun h4 => ?_) (fun h4 => ?_)
        · try simp only [decide_eq_true_eq, decide_eq_false_iff_not, beq_iff_eq, beq_eq_false_iff_ne, bne_iff_ne, bne_eq_false_iff_eq, Int.not_lt, Int.not_le, ne_eq, Bool.not_eq_true', Bool.not_eq_false', gt_iff_lt, ge_iff_le] at h4
          skip
          refine RO.nil ?_
          refine Runs.condT rfl ?_
          refine Runs.has [(0, .ref 5 0), (2, .d (.int _ _)), (4, .ref 6 0), (6, .ref 7 0)] ⟨rfl, rfl, rfl, rfl, trivial⟩ ?_
          refine Runs.rseq ?_
          refine RO.opv (v' := .d (enc _)) (opv_build_term (ks := []) rfl rfl) rfl ?_
          refine RO.op0n (O' := [_, _, _, _, _, _, _, _]) (opv_store_term rfl rfl rfl (Nat.le_of_ble_eq_true rfl)) rfl ?_
          refine RO.nil ?_
          refine Runs.ret ?_
          refine thenQ_ret ?_
          refine EndQ.cell_term (.inr rfl) rfl rfl rfl rfl 6 (by exact Nat.le_refl _) (by simp) ⟨?_, ?_⟩
          · rw [fillT_seven (by omega) (by omega)]; rfl
          · rw [fillT_seven (by omega) (by omega)]; rfl
        · try simp only [decide_eq_true_eq, decide_eq_false_iff_not, beq_iff_eq, beq_eq_false_iff_ne, bne_iff_ne, bne_eq_false_iff_eq, Int.not_lt, Int.not_le, ne_eq, Bool.not_eq_true', Bool.not_eq_false', gt_iff_lt, ge_iff_le] at h4
          omega
    · try simp only [decide_eq_true_eq, decide_eq_false_iff_not, beq_iff_eq, beq_eq_false_iff_ne, bne_iff_ne, bne_eq_false_iff_eq, Int.not_lt, Int.not_le, ne_eq, Bool.not_eq_true', Bool.not_eq_false', gt_iff_lt, ge_iff_le] at h2
      refine RO.nil ?_
      refine Runs.condF rfl ?_
      refine Runs.skip ?_
      refine thenQ_normal ?_
      refine Runs.has [(0, .ref 5 0), (2, .d (.int _ _)), (4, .ref 6 0), (6, .ref 7 0)] ⟨rfl, rfl, rfl, rfl, trivial⟩ ?_
      refine Runs.seq ?_
      refine Runs.rseq ?_
      refine RO.opv (v' := .ref 5 0) (opv_move rfl) rfl ?_
      refine RO.opv (v' := .ref 5 0) (opv_nilCheck_ref rfl rfl) rfl ?_
      refine RO.opv (v' := .ref 5 1) (opv_field_ref rfl rfl) rfl ?_
      refine RO.opv (v' := .d (.int _ _)) (opv_load_ref rfl rfl rfl) rfl ?_
      refine RO.opv (v' := .d (.int _ _)) (opv_bin rfl rfl rfl) rfl ?_
      refine RO.opv (v' := .ref 5 0) (opv_nilCheck_ref rfl rfl) rfl ?_
      refine RO.opv (v' := .ref 5 1) (opv_field_ref rfl rfl) rfl ?_
      refine RO.op0n (O' := [_, _, _, _, _, _, _, _]) (opv_store_ref rfl rfl rfl rfl rfl (Nat.le_of_ble_eq_true rfl) rfl) rfl ?_
      refine RO.nil ?_
      refine Runs.has [(0, .ref 5 0), (2, .d (.int _ _)), (4, .ref 6 0), (6, .ref 7 0)] ⟨rfl, rfl, rfl, rfl, trivial⟩ ?_
      refine Runs.rseq ?_
      refine RO.opv (v' := .ref 5 0) (opv_move rfl) rfl ?_
      refine RO.opv (v' := .ref 5 0) (opv_nilCheck_ref rfl rfl) rfl ?_
      refine RO.opv (v' := .ref 5 2) (opv_field_ref rfl rfl) rfl ?_
      refine RO.opv (v' := .d (.int _ _)) (opv_load_ref rfl rfl rfl) rfl ?_
      refine RO.opv (v' := .d (.bool _)) (opv_bin rfl rfl rfl) rfl ?_
      refine RO.opc (opv_move rfl) (fun h5 => ?_) (fun h5 => ?_)
      · try simp only [decide_eq_true_eq, decide_eq_false_iff_not, beq_iff_eq, beq_eq_false_iff_ne, bne_iff_ne, bne_eq_false_iff_eq, Int.not_lt, Int.not_le, ne_eq, Bool.not_eq_true', Bool.not_eq_false', gt_iff_lt, ge_iff_le] at h5
        refine RO.opgv (v' := .ref 5 0) rfl (opv_move rfl) rfl ?_
        refine RO.opgv (v' := .ref 5 0) rfl (opv_nilCheck_ref rfl rfl) rfl ?_
        refine RO.opgv (v' := .ref 5 1) rfl (opv_field_ref rfl rfl) rfl ?_
        refine RO.opgv (v' := .d (.int _ _)) rfl (opv_load_ref rfl rfl rfl) rfl ?_
        refine RO.opgv (v' := .d (.bool _)) rfl (opv_bin rfl rfl rfl) rfl ?_
        refine RO.opc (opv_pick rfl rfl) (fun h6 => ?_) (fun h6 => ?_)
        · try simp only [decide_eq_true_eq, decide_eq_false_iff_not, beq_iff_eq, beq_eq_false_iff_ne, bne_iff_ne, bne_eq_false_iff_eq, Int.not_lt, Int.not_le, ne_eq, Bool.not_eq_true', Bool.not_eq_false', gt_iff_lt, ge_iff_le] at h6
          refine RO.nil ?_
          refine Runs.condT rfl ?_
          refine Runs.has [(0, .ref 5 0), (2, .d (.int _ _)), (4, .ref 6 0), (6, .ref 7 0)] ⟨rfl, rfl, rfl, rfl, trivial⟩ ?_
          refine Runs.region ?_
          refine RO.opv (v' := .ref 5 0) (opv_move rfl) rfl ?_
          refine RO.opv (v' := .ref 5 0) (opv_nilCheck_ref rfl rfl) rfl ?_
          refine RO.opv (v' := .ref 5 2) (opv_field_ref rfl rfl) rfl ?_
          refine RO.op0n (O' := [_, _, _, _, _, _, _, _]) (opv_store_ref rfl rfl rfl rfl rfl (Nat.le_of_ble_eq_true rfl) rfl) rfl ?_
          refine RO.nil ?_
          refine thenQ_normal ?_
          refine Runs.has [(0, .ref 5 0), (2, .d (.int _ _)), (4, .ref 6 0), (6, .ref 7 0)] ⟨rfl, rfl, rfl, rfl, trivial⟩ ?_
          refine Runs.seq ?_
          refine Runs.rseq ?_
          refine RO.opv (v' := .ref 5 0) (opv_move rfl) rfl ?_
          refine RO.opv (v' := .ref 5 0) (opv_nilCheck_ref rfl rfl) rfl ?_
          refine RO.opv (v' := .ref 5 2) (opv_field_ref rfl rfl) rfl ?_
          refine RO.opv (v' := .d (.int _ _)) (opv_load_ref rfl rfl rfl) rfl ?_
          refine RO.opc (opv_bin rfl rfl rfl) (fun h7 => ?_) (fun h7 => ?_)
          · try simp only [decide_eq_true_eq, decide_eq_false_iff_not, beq_iff_eq, beq_eq_false_iff_ne, bne_iff_ne, bne_eq_false_iff_eq, Int.not_lt, Int.not_le, ne_eq, Bool.not_eq_true', Bool.not_eq_false', gt_iff_lt, ge_iff_le] at h7
            skip
            refine RO.nil ?_
            refine Runs.condT rfl ?_
            refine Runs.has [(0, .ref 5 0), (2, .d (.int _ _)), (4, .ref 6 0), (6, .ref 7 0)] ⟨rfl, rfl, rfl, rfl, trivial⟩ ?_
            refine Runs.rseq ?_
            refine RO.opv (v' := .d (enc _)) (opv_build_term (ks := []) rfl rfl) rfl ?_
            refine RO.op0n (O' := [_, _, _, _, _, _, _, _]) (opv_store_term rfl rfl rfl (Nat.le_of_ble_eq_true rfl)) rfl ?_
            refine RO.nil ?_
            refine Runs.ret ?_
            refine thenQ_ret ?_
            refine EndQ.cell_term (.inr rfl) rfl rfl rfl rfl 6 (by exact Nat.le_refl _) (by simp) ⟨?_, ?_⟩
            · rw [fillT_three (by omega) (by omega) (by omega)]; rfl
            · rw [fillT_three (by omega) (by omega) (by omega)]; rfl
          · try simp only [decide_eq_true_eq, decide_eq_false_iff_not, beq_iff_eq, beq_eq_false_iff_ne, bne_iff_ne, bne_eq_false_iff_eq, Int.not_lt, Int.not_le, ne_eq, Bool.not_eq_true', Bool.not_eq_false', gt_iff_lt, ge_iff_le] at h7
            omega
        · try simp only [decide_eq_true_eq, decide_eq_false_iff_not, beq_iff_eq, beq_eq_false_iff_ne, bne_iff_ne, bne_eq_false_iff_eq, Int.not_lt, Int.not_le, ne_eq, Bool.not_eq_true', Bool.not_eq_false', gt_iff_lt, ge_iff_le] at h6
          refine RO.nil ?_
          refine Runs.condF rfl ?_
          refine Runs.skip ?_
          refine thenQ_normal ?_
          refine Runs.has [(0, .ref 5 0), (2, .d (.int _ _)), (4, .ref 6 0), (6, .ref 7 0)] ⟨rfl, rfl, rfl, rfl, trivial⟩ ?_
          refine Runs.seq ?_
          refine Runs.rseq ?_
          refine RO.opv (v' := .ref 5 0) (opv_move rfl) rfl ?_
          refine RO.opv (v' := .ref 5 0) (opv_nilCheck_ref rfl rfl) rfl ?_
          refine RO.opv (v' := .ref 5 2) (opv_field_ref rfl rfl) rfl ?_
          refine RO.opv (v' := .d (.int _ _)) (opv_load_ref rfl rfl rfl) rfl ?_
          refine RO.opc (opv_bin rfl rfl rfl) (fun h8 => ?_) (fun h8 => ?_)
          · try simp only [decide_eq_true_eq, decide_eq_false_iff_not, beq_iff_eq, beq_eq_false_iff_ne, bne_iff_ne, bne_eq_false_iff_eq, Int.not_lt, Int.not_le, ne_eq, Bool.not_eq_true', Bool.not_eq_false', gt_iff_lt, ge_iff_le] at h8
            omega
          · try simp only [decide_eq_true_eq, decide_eq_false_iff_not, beq_iff_eq, beq_eq_false_iff_ne, bne_iff_ne, bne_eq_false_iff_eq, Int.not_lt, Int.not_le, ne_eq, Bool.not_eq_true', Bool.not_eq_false', gt_iff_lt, ge_iff_le] at h8
            subst h8
            obtain ⟨m', rfl⟩ : ∃ m', m = m' + 1 := ⟨m - 1, by omega⟩
            refine RO.nil ?_
            refine Runs.condF rfl ?_
            refine Runs.skip ?_
            refine thenQ_normal ?_
            refine Runs.has [(0, .ref 5 0), (2, .d (.int _ _)), (4, .ref 6 0), (6, .ref 7 0)] ⟨rfl, rfl, rfl, rfl, trivial⟩ ?_
            refine Runs.rseq ?_
            refine RO.opv (v' := .nil0) (opv_assign rfl) rfl ?_
            refine RO.nil ?_
            refine Runs.seq ?_
            refine Runs.adopt 7 24 4 rfl ?_
            refine Runs.rseq ?_
            refine RO.opv (v' := .ref 6 3) (opv_field_ref rfl rfl) rfl ?_
            refine RO.opv (v' := .d (.list (encs _))) (opv_load_ref rfl rfl rfl) rfl ?_
            refine RO.opv (v' := .d (.int _ _)) (opv_len_terms rfl) rfl ?_
            refine RO.opv (v' := .d (.int _ _)) (opv_move rfl) rfl ?_
            refine RO.nil ?_
            refine Runs.block ?_
            refine Runs.loopC (X := Nat) (fun i => i ≤ (s.wk t).kids.length) (fun i => (s.wk t).kids.length - i) [(0, .ref 5 0), (2, .d (.int _ _)), (4, .ref 6 0), (6, .ref 7 0), (57, .d (.list (encs _))), (58, .d (.int _ _))] (fun i => [(7, .own 8 (1 + i)), (59, .d (.int .i64 (i : Nat)))]) [_, _, _, _, _] (fun i => [.cells [.ref 2 0, .d (.int .i64 (fillK s.wk m' ((s.wk t).kids.take i) (IntKind.i64.wrap (l - 1)) 0).2.1), .d (.int .i64 (fillK s.wk m' ((s.wk t).kids.take i) (IntKind.i64.wrap (l - 1)) 0).2.2)], .cells (cellsT (s.wk t)), .cells [.d (.int .i64 0), .d (.int .i64 0), .d (.str ⟨#[]⟩), .nil0], .buf 24 4 (encs (fillK s.wk m' ((s.wk t).kids.take i) (IntKind.i64.wrap (l - 1)) 0).1) (1 + i)]) (0) ⟨rfl, rfl, rfl, rfl, rfl, rfl, trivial⟩ ⟨rfl, rfl, trivial⟩ rfl (by omega) fun i hi => ?_
            refine Runs.rseq ?_
            refine RO.opc (opv_bin rfl rfl rfl) (fun h9 => ?_) (fun h9 => ?_)
            · try simp only [decide_eq_true_eq, decide_eq_false_iff_not, beq_iff_eq, beq_eq_false_iff_ne, bne_iff_ne, bne_eq_false_iff_eq, Int.not_lt, Int.not_le, ne_eq, Bool.not_eq_true', Bool.not_eq_false', gt_iff_lt, ge_iff_le] at h9
              have hk : i < (s.wk t).kids.length := by omega
              refine RO.nil ?_
              refine Runs.seq ?_
              refine Runs.condT rfl ?_
              refine Runs.skip ?_
              refine thenQ_normal ?_
              refine Runs.has [(0, .ref 5 0), (2, .d (.int _ _)), (4, .ref 6 0), (6, .ref 7 0), (7, .own 8 _), (57, .d (.list (encs _))), (58, .d (.int _ _)), (59, .d (.int _ _))] ⟨rfl, rfl, rfl, rfl, rfl, rfl, rfl, rfl, trivial⟩ ?_
              refine Runs.seq ?_
              refine Runs.block ?_
              refine Runs.rseq ?_
              refine RO.opv (v' := .d (.ptr _)) (opv_index_terms rfl rfl (by omega)) rfl ?_
              refine RO.opv (v' := .d (enc _)) (opv_load_pterm rfl) rfl ?_
              refine RO.opn (v' := .ref 9 0) (O' := [_, _, _, _, _, _, _, _, _, _]) (opv_alloc) rfl rfl ?_
              refine RO.op0n (O' := [_, _, _, _, _, _, _, _, _, _]) (opv_store_term rfl rfl rfl (Nat.le_of_ble_eq_true rfl)) rfl ?_
              refine RO.nil ?_
              refine Runs.has [(0, .ref 5 0), (2, .d (.int _ _)), (4, .ref 6 0), (6, .ref 7 0), (7, .own 8 _), (9, .ref 9 0), (57, .d (.list (encs _))), (58, .d (.int _ _)), (59, .d (.int _ _))] ⟨rfl, rfl, rfl, rfl, rfl, rfl, rfl, rfl, rfl, trivial⟩ ?_
              refine Runs.region ?_
              refine RO.opv (v' := .own 8 _) (opv_move rfl) rfl ?_
              refine RO.opv (v' := .ref 5 0) (opv_move rfl) rfl ?_
              refine RO.opv (v' := .d (enc _)) (opv_load_term rfl rfl rfl) rfl ?_
              refine RO.opv (v' := .d (.int _ _)) (opv_move rfl) rfl ?_
              refine RO.opv (v' := .d (.int _ _)) (opv_arith rfl rfl (binD_add (r := 61 - (m' : Int)) (by rw [wrap64 (by omega) (by omega)]; omega))) rfl ?_
              refine RO.opn (v' := .d (enc _)) (O' := [_, _, _, _, _, _, _, _, _, _]) (opv_callP 6 (ih m' (s.wk t).kids[i] (fillK s.wk m' ((s.wk t).kids.take i) (IntKind.i64.wrap (l - 1)) 0).2.1 (fillK s.wk m' ((s.wk t).kids.take i) (IntKind.i64.wrap (l - 1)) 0).2.2 (by omega) (by omega) (by have := bulks_mem (List.getElem_mem hk); omega)) rfl rfl (Nat.le_of_ble_eq_true rfl) rfl (AV.bds_of_B _ rfl)) rfl rfl ?_
              refine RO.opv (v' := .d (.list (encs _))) (opv_bs_term1 rfl ) rfl ?_
              refine RO.opn (v' := .own 8 _) (O' := [_, _, _, _, _, _, _, _, _, _]) (opv_append_terms rfl rfl rfl (by rw [fillK_len]; simp; omega)) rfl rfl ?_
              refine RO.opv (v' := .own 8 _) (opv_assign rfl) rfl ?_
              refine RO.nil ?_
              refine blockQ_normal ?_
              refine thenQ_normal ?_
              refine Runs.has [(0, .ref 5 0), (2, .d (.int _ _)), (4, .ref 6 0), (6, .ref 7 0), (7, .own 8 _), (57, .d (.list (encs _))), (58, .d (.int _ _)), (59, .d (.int _ _))] ⟨rfl, rfl, rfl, rfl, rfl, rfl, rfl, rfl, trivial⟩ ?_
              refine Runs.region ?_
              refine RO.opv (v' := .d (.int _ _)) (opv_bin rfl rfl rfl) rfl ?_
              refine RO.opv (v' := .d (.int _ _)) (opv_move rfl) rfl ?_
              refine RO.nil ?_
              refine thenQ_normal ?_
              refine ⟨i+1, 9, (by rw [hK]; exact Nat.le_of_ble_eq_true rfl), ⟨rfl, rfl, rfl, rfl, rfl, rfl, trivial⟩, ⟨?_, ?_, trivial⟩, ?_, ?_, ?_⟩
              · rfl
              · refine int_eq ?_; rw [wrap64 (by omega) (by omega)]; omega
              · rw [fillK_take _ _ hk]; rfl
              · omega
              · omega
            · try simp only [decide_eq_true_eq, decide_eq_false_iff_not, beq_iff_eq, beq_eq_false_iff_ne, bne_iff_ne, bne_eq_false_iff_eq, Int.not_lt, Int.not_le, ne_eq, Bool.not_eq_true', Bool.not_eq_false', gt_iff_lt, ge_iff_le] at h9
              have hk : i = (s.wk t).kids.length := by omega
              refine RO.nil ?_
              refine Runs.seq ?_
              refine Runs.condF rfl ?_
              refine Runs.exit ?_
              refine thenQ_exit ?_
              refine thenQ_exit ?_
              refine blockQ_here ?_
              refine thenQ_normal ?_
              refine Runs.has [(4, .ref 6 0), (6, .ref 7 0), (7, .own 8 _)] ⟨rfl, rfl, rfl, trivial⟩ ?_
              refine Runs.shut 7 rfl rfl ?_
              refine Runs.rseq ?_
              refine RO.opv (v' := .d (.list (encs _))) (opv_move rfl) rfl ?_
              refine RO.opv (v' := .ref 6 3) (opv_field_ref rfl rfl) rfl ?_
              refine RO.op0n (O' := [_, _, _, _, _, _, _, _, _]) (opv_store_ref rfl rfl rfl rfl rfl (Nat.le_of_ble_eq_true rfl) rfl) rfl ?_
              refine RO.nil ?_
              refine Runs.has [(4, .ref 6 0), (6, .ref 7 0)] ⟨rfl, rfl, trivial⟩ ?_
              refine Runs.rseq ?_
              refine RO.opv (v' := .d (enc _)) (opv_load_node rfl rfl rfl rfl) rfl ?_
              refine RO.op0n (O' := [_, _, _, _, _, _, _, _, _]) (opv_store_term rfl rfl rfl (Nat.le_of_ble_eq_true rfl)) rfl ?_
              refine RO.nil ?_
              refine Runs.ret ?_
              refine EndQ.cell_term (.inr rfl) rfl rfl rfl rfl 6 (by exact Nat.le_refl _) (by simp) ⟨?_, ?_⟩
              · rw [fillT_ok (by omega), hk, List.take_length]
              · rw [fillT_ok (by omega), hk, List.take_length]; rfl
      · try simp only [decide_eq_true_eq, decide_eq_false_iff_not, beq_iff_eq, beq_eq_false_iff_ne, bne_iff_ne, bne_eq_false_iff_eq, Int.not_lt, Int.not_le, ne_eq, Bool.not_eq_true', Bool.not_eq_false', gt_iff_lt, ge_iff_le] at h5
        omega
  · try simp only [decide_eq_true_eq, decide_eq_false_iff_not, beq_iff_eq, beq_eq_false_iff_ne, bne_iff_ne, bne_eq_false_iff_eq, Int.not_lt, Int.not_le, ne_eq, Bool.not_eq_true', Bool.not_eq_false', gt_iff_lt, ge_iff_le] at h1
    refine RO.off rfl ?_
    refine RO.off rfl ?_
    refine RO.opv (v' := .d (.bool false)) (opv_pick rfl rfl) rfl ?_
    refine RO.nil ?_
    refine Runs.condF rfl ?_
    refine Runs.skip ?_
    refine thenQ_normal ?_
    refine Runs.has [(0, .ref 5 0), (2, .d (.int _ _)), (4, .ref 6 0), (6, .ref 7 0)] ⟨rfl, rfl, rfl, rfl, trivial⟩ ?_
    refine Runs.seq ?_
    refine Runs.rseq ?_
    refine RO.opv (v' := .ref 5 0) (opv_move rfl) rfl ?_
    refine RO.opv (v' := .ref 5 0) (opv_nilCheck_ref rfl rfl) rfl ?_
    refine RO.opv (v' := .ref 5 1) (opv_field_ref rfl rfl) rfl ?_
    refine RO.opv (v' := .d (.int _ _)) (opv_load_ref rfl rfl rfl) rfl ?_
    refine RO.opv (v' := .d (.int _ _)) (opv_bin rfl rfl rfl) rfl ?_
    refine RO.opv (v' := .ref 5 0) (opv_nilCheck_ref rfl rfl) rfl ?_
    refine RO.opv (v' := .ref 5 1) (opv_field_ref rfl rfl) rfl ?_
    refine RO.op0n (O' := [_, _, _, _, _, _, _, _]) (opv_store_ref rfl rfl rfl rfl rfl (Nat.le_of_ble_eq_true rfl) rfl) rfl ?_
    refine RO.nil ?_
    refine Runs.has [(0, .ref 5 0), (2, .d (.int _ _)), (4, .ref 6 0), (6, .ref 7 0)] ⟨rfl, rfl, rfl, rfl, trivial⟩ ?_
    refine Runs.rseq ?_
    refine RO.opv (v' := .ref 5 0) (opv_move rfl) rfl ?_
    refine RO.opv (v' := .ref 5 0) (opv_nilCheck_ref rfl rfl) rfl ?_
    refine RO.opv (v' := .ref 5 2) (opv_field_ref rfl rfl) rfl ?_
    refine RO.opv (v' := .d (.int _ _)) (opv_load_ref rfl rfl rfl) rfl ?_
    refine RO.opv (v' := .d (.bool _)) (opv_bin rfl rfl rfl) rfl ?_
    refine RO.opc (opv_move rfl) (fun h10 => ?_) (fun h10 => ?_)
    · try simp only [decide_eq_true_eq, decide_eq_false_iff_not, beq_iff_eq, beq_eq_false_iff_ne, bne_iff_ne, bne_eq_false_iff_eq, Int.not_lt, Int.not_le, ne_eq, Bool.not_eq_true', Bool.not_eq_false', gt_iff_lt, ge_iff_le] at h10
      omega
    · try simp only [decide_eq_true_eq, decide_eq_false_iff_not, beq_iff_eq, beq_eq_false_iff_ne, bne_iff_ne, bne_eq_false_iff_eq, Int.not_lt, Int.not_le, ne_eq, Bool.not_eq_true', Bool.not_eq_false', gt_iff_lt, ge_iff_le] at h10
      refine RO.off rfl ?_
      refine RO.off rfl ?_
      refine RO.off rfl ?_
      refine RO.off rfl ?_
      refine RO.off rfl ?_
      refine RO.opv (v' := .d (.bool false)) (opv_pick rfl rfl) rfl ?_
      refine RO.nil ?_
      refine Runs.condF rfl ?_
      refine Runs.skip ?_
      refine thenQ_normal ?_
      refine Runs.has [(0, .ref 5 0), (2, .d (.int _ _)), (4, .ref 6 0), (6, .ref 7 0)] ⟨rfl, rfl, rfl, rfl, trivial⟩ ?_
      refine Runs.seq ?_
      refine Runs.rseq ?_
      refine RO.opv (v' := .ref 5 0) (opv_move rfl) rfl ?_
      refine RO.opv (v' := .ref 5 0) (opv_nilCheck_ref rfl rfl) rfl ?_
      refine RO.opv (v' := .ref 5 2) (opv_field_ref rfl rfl) rfl ?_
      refine RO.opv (v' := .d (.int _ _)) (opv_load_ref rfl rfl rfl) rfl ?_
      refine RO.opc (opv_bin rfl rfl rfl) (fun h11 => ?_) (fun h11 => ?_)
      · try simp only [decide_eq_true_eq, decide_eq_false_iff_not, beq_iff_eq, beq_eq_false_iff_ne, bne_iff_ne, bne_eq_false_iff_eq, Int.not_lt, Int.not_le, ne_eq, Bool.not_eq_true', Bool.not_eq_false', gt_iff_lt, ge_iff_le] at h11
        skip
        refine RO.nil ?_
        refine Runs.condT rfl ?_
        refine Runs.has [(0, .ref 5 0), (2, .d (.int _ _)), (4, .ref 6 0), (6, .ref 7 0)] ⟨rfl, rfl, rfl, rfl, trivial⟩ ?_
        refine Runs.rseq ?_
        refine RO.opv (v' := .d (enc _)) (opv_build_term (ks := []) rfl rfl) rfl ?_
        refine RO.op0n (O' := [_, _, _, _, _, _, _, _]) (opv_store_term rfl rfl rfl (Nat.le_of_ble_eq_true rfl)) rfl ?_
        refine RO.nil ?_
        refine Runs.ret ?_
        refine thenQ_ret ?_
        refine EndQ.cell_term (.inr rfl) rfl rfl rfl rfl 6 (by exact Nat.le_refl _) (by simp) ⟨?_, ?_⟩
        · rw [fillT_old (by omega)]; rfl
        · rw [fillT_old (by omega)]; rfl
      · try simp only [decide_eq_true_eq, decide_eq_false_iff_not, beq_iff_eq, beq_eq_false_iff_ne, bne_iff_ne, bne_eq_false_iff_eq, Int.not_lt, Int.not_le, ne_eq, Bool.not_eq_true', Bool.not_eq_false', gt_iff_lt, ge_iff_le] at h11
        omega
theorem full_fn (s : St) (t : Term) (hs : s.small (2 ^ 30)) (hw : ∀ t, s.look (s.wk t) = none) (hb : t.bulk ≤ 2 ^ 30) : Fn Try.prog 18 [.ref 2 0, .d (enc t)] [.buf 88 5 (encCells (s).cs) (s).v1, .buf 3 1 (ints (s).tr) (s).v2, .cells [.own 0 (s).v1, .own 1 (s).v2]] (.tup [.d (enc (s.full t).1), .d (.int .i64 (s.full t).2)]) [.buf 88 5 (encCells (s).cs) (s).v1, .buf 3 1 (ints (s).tr) (s).v2, .cells [.own 0 (s).v1, .own 1 (s).v2]] := by
  refine Does.run Try.func18 rfl Try.ntmps18 rfl fun K hK => ?_
  refine Runs.rseq ?_
  refine RO.opn (v' := .ref 3 0) (O' := [_, _, _, _]) (opv_box_term rfl) rfl rfl ?_
  refine RO.opn (v' := .ref 4 0) (O' := [_, _, _, _, _]) (opv_alloc) rfl rfl ?_
  refine RO.opv (v' := .d (.int _ _)) (opv_assign rfl) rfl ?_
  refine RO.nil ?_
  refine Runs.has [(0, .ref 2 0), (3, .ref 3 0), (4, .ref 4 0), (5, .d (.int _ _))] ⟨rfl, rfl, rfl, rfl, trivial⟩ ?_
  refine Runs.seq ?_
  refine Runs.rseq ?_
  refine RO.opv (v' := .ref 2 0) (opv_move rfl) rfl ?_
  refine RO.opv (v' := .d (.bool false)) (opv_eqnil_ref rfl rfl rfl) rfl ?_
  refine RO.nil ?_
  refine Runs.condF rfl ?_
  refine Runs.skip ?_
  refine thenQ_normal ?_
  refine Runs.has [(0, .ref 2 0), (3, .ref 3 0), (4, .ref 4 0), (5, .d (.int _ _))] ⟨rfl, rfl, rfl, rfl, trivial⟩ ?_
  refine Runs.rseq ?_
  refine RO.opv (v' := .ref 2 0) (opv_move rfl) rfl ?_
  refine RO.opv (v' := .agg _) (opv_build rfl) rfl ?_
  refine RO.opn (v' := .ref 5 0) (O' := [_, _, _, _, _, _]) (opv_box rfl rfl) rfl rfl ?_
  refine RO.opv (v' := .ref 5 0) (opv_assign rfl) rfl ?_
  refine RO.nil ?_
  refine Runs.has [(3, .ref 3 0), (4, .ref 4 0), (5, .d (.int _ _)), (6, .ref 5 0)] ⟨rfl, rfl, rfl, rfl, trivial⟩ ?_
  refine Runs.rseq ?_
  refine RO.opv (v' := .ref 5 0) (opv_move rfl) rfl ?_
  refine RO.opv (v' := .d (enc _)) (opv_load_term rfl rfl rfl) rfl ?_
  refine RO.opn (v' := .d (enc _)) (O' := [_, _, _, _, _, _]) (opv_callP 6 (fill_aux s _ _ hs hw 61 60 t 1000 0 (by omega) (Nat.le_refl _) hb) rfl rfl (Nat.le_of_ble_eq_true rfl) rfl (AV.bds_of_B _ rfl)) rfl rfl ?_
  refine RO.opn (v' := .ref 6 0) (O' := [_, _, _, _, _, _, _]) (opv_alloc) rfl rfl ?_
  refine RO.op0n (O' := [_, _, _, _, _, _, _]) (opv_store_term rfl rfl rfl (Nat.le_of_ble_eq_true rfl)) rfl ?_
  refine RO.nil ?_
  refine Runs.has [(4, .ref 4 0), (5, .d (.int _ _)), (6, .ref 5 0), (7, .ref 6 0)] ⟨rfl, rfl, rfl, rfl, trivial⟩ ?_
  refine Runs.seq ?_
  refine Runs.rseq ?_
  refine RO.opv (v' := .ref 5 0) (opv_move rfl) rfl ?_
  refine RO.opv (v' := .ref 5 0) (opv_nilCheck_ref rfl rfl) rfl ?_
  refine RO.opv (v' := .ref 5 2) (opv_field_ref rfl rfl) rfl ?_
  refine RO.opv (v' := .d (.int _ _)) (opv_load_ref rfl rfl rfl) rfl ?_
  refine RO.opc (opv_bin rfl rfl rfl) (fun h1 => ?_) (fun h1 => ?_)
  · try simp only [decide_eq_true_eq, decide_eq_false_iff_not, beq_iff_eq, beq_eq_false_iff_ne, bne_iff_ne, bne_eq_false_iff_eq, Int.not_lt, Int.not_le, ne_eq, Bool.not_eq_true', Bool.not_eq_false', gt_iff_lt, ge_iff_le] at h1
    refine RO.nil ?_
    refine Runs.condT rfl ?_
    refine Runs.has [(4, .ref 4 0), (5, .d (.int _ _)), (6, .ref 5 0), (7, .ref 6 0)] ⟨rfl, rfl, rfl, rfl, trivial⟩ ?_
    refine Runs.seq ?_
    refine Runs.drawn (by kernel_rfl) [5] [false, true, true, true, true, false, false] [false, false, false, false, false, true, false] (by decide +kernel) ?_
    refine RD.opv (v' := .d (enc _)) (opv_build_term (ks := []) rfl rfl) rfl ?_
    refine RD.opa (v' := .ref 5 0) (fun O' hkeep => opv_move rfl) rfl ?_
    refine RD.opa (v' := .ref 5 0) (fun O' hkeep => opv_nilCheck_ref rfl (hkeep.1.trans rfl)) rfl ?_
    refine RD.opa (v' := .ref 5 2) (fun O' hkeep => opv_field_ref rfl (hkeep.1.trans rfl)) rfl ?_
    refine RD.opa (v' := .d (.int _ _)) (fun O' hkeep => opv_load_ref rfl (hkeep.1.trans rfl) rfl) rfl ?_
    refine RD.op0n (O' := [_, _, _, _, _, _, _]) (opv_store_term rfl rfl rfl (Nat.le_of_ble_eq_true rfl)) rfl ⟨rfl, trivial⟩ ?_
    refine RD.opv (v' := .d (.int _ _)) (opv_assign rfl) rfl ?_
    refine RD.nil ?_
    refine thenQ_normal ?_
    refine Runs.ret ?_
    refine thenQ_ret ?_
    refine EndQ.ct (v := .d (enc _)) (v' := .d (.int _ _)) (.inr rfl) rfl rfl rfl (by exact take_term _) rfl 3 (by exact Nat.le_refl _) (by simp) trivial trivial ⟨?_, rfl⟩
    unfold St.full; rw [if_neg h1]; rfl
  · try simp only [decide_eq_true_eq, decide_eq_false_iff_not, beq_iff_eq, beq_eq_false_iff_ne, bne_iff_ne, bne_eq_false_iff_eq, Int.not_lt, Int.not_le, ne_eq, Bool.not_eq_true', Bool.not_eq_false', gt_iff_lt, ge_iff_le] at h1
    refine RO.nil ?_
    refine Runs.condF rfl ?_
    refine Runs.skip ?_
    refine thenQ_normal ?_
    refine Runs.has [(4, .ref 4 0), (5, .d (.int _ _)), (7, .ref 6 0)] ⟨rfl, rfl, rfl, trivial⟩ ?_
    refine Runs.rseq ?_
    refine RO.opv (v' := .d (enc _)) (opv_load_term rfl rfl rfl) rfl ?_
    refine RO.op0n (O' := [_, _, _, _, _, _, _]) (opv_store_term rfl rfl rfl (Nat.le_of_ble_eq_true rfl)) rfl ?_
    refine RO.opv (v' := .d (.int _ _)) (opv_assign rfl) rfl ?_
    refine RO.nil ?_
    refine Runs.ret ?_
    refine EndQ.ct (v := .d (enc _)) (v' := .d (.int _ _)) (.inr rfl) rfl rfl rfl (by exact take_term _) rfl 3 (by exact Nat.le_refl _) (by simp) trivial trivial ⟨?_, rfl⟩
    unfold St.full; rw [if_pos h1]
-- a store that is nil
theorem bound_nil (t : Term) : Fn Try.prog 51 [.d .nilp, .d (enc t)] [] (.d (.bool false)) [] := by
  refine Does.run Try.func51 rfl Try.ntmps51 rfl fun K hK => ?_
  refine Runs.rseq ?_
  refine RO.opn (v' := .ref 0 0) (O' := [_]) (opv_box_term rfl) rfl rfl ?_
  refine RO.opv (v' := .d (.bool false)) (opv_assign rfl) rfl ?_
  refine RO.nil ?_
  refine Runs.has [(0, .d .nilp), (3, .ref 0 0), (4, .d (.bool false))] ⟨rfl, rfl, rfl, trivial⟩ ?_
  refine Runs.seq ?_
  refine Runs.drawn (by kernel_rfl) [] [false, false, false, false, false, false, false, false, false, false, false, false, false, false, false, false, false, false, false, false, false, false, false, false, false, false, false, false, false, false, false, false, false, false] [false, false, false, false, false, false, false, false, false, false, false, false, false, false, false, false, false, false, false, false, false, false, false, false, false, false, false, false, false, false, false, false, false, false] (by decide +kernel) ?_
  refine RD.opv (v' := .d .nilp) (opv_move rfl) rfl ?_
  refine RD.opv (v' := .d (.bool false)) (opv_nenil rfl rfl rfl) rfl ?_
  refine RD.opv (v' := .d (.bool false)) (opv_move rfl) rfl ?_
  refine RD.off rfl ?_
  refine RD.off rfl ?_
  refine RD.off rfl ?_
  refine RD.opv (v' := .d (.bool false)) (opv_pick rfl rfl) rfl ?_
  refine RD.opv (v' := .d (.bool false)) (opv_move rfl) rfl ?_
  refine RD.off rfl ?_
  refine RD.off rfl ?_
  refine RD.off rfl ?_
  refine RD.opv (v' := .d (.bool false)) (opv_pick rfl rfl) rfl ?_
  refine RD.opv (v' := .d (.bool false)) (opv_move rfl) rfl ?_
  refine RD.off rfl ?_
  refine RD.off rfl ?_
  refine RD.off rfl ?_
  refine RD.off rfl ?_
  refine RD.off rfl ?_
  refine RD.off rfl ?_
  refine RD.off rfl ?_
  refine RD.off rfl ?_
  refine RD.opv (v' := .d (.bool false)) (opv_pick rfl rfl) rfl ?_
  refine RD.opv (v' := .d (.bool false)) (opv_move rfl) rfl ?_
  refine RD.off rfl ?_
  refine RD.off rfl ?_
  refine RD.off rfl ?_
  refine RD.off rfl ?_
  refine RD.off rfl ?_
  refine RD.off rfl ?_
  refine RD.off rfl ?_
  refine RD.off rfl ?_
  refine RD.off rfl ?_
  refine RD.opv (v' := .d (.bool false)) (opv_pick rfl rfl) rfl ?_
  refine RD.opv (v' := .d (.bool false)) (opv_assign rfl) rfl ?_
  refine RD.nil ?_
  refine thenQ_normal ?_
  refine Runs.ret ?_
  refine EndQ.tmp (.inr rfl) rfl rfl 0 (by exact Nat.le_refl _) (by exact Nat.zero_le _) trivial ⟨?_, rfl⟩
  rfl
theorem walk_nil (t : Term) : Fn Try.prog 32 [.d .nilp, .d (enc t)] [] (.d (enc t)) [] := by
  refine Does.run Try.func32 rfl Try.ntmps32 rfl fun K hK => ?_
  refine Runs.rseq ?_
  refine RO.opn (v' := .ref 0 0) (O' := [_]) (opv_box_term rfl) rfl rfl ?_
  refine RO.opn (v' := .ref 1 0) (O' := [_, _]) (opv_alloc) rfl rfl ?_
  refine RO.nil ?_
  refine Runs.has [(0, .d .nilp), (3, .ref 0 0), (4, .ref 1 0)] ⟨rfl, rfl, rfl, trivial⟩ ?_
  refine Runs.seq ?_
  refine Runs.block ?_
  refine Runs.loopC (X := Nat) (fun i => True) (fun i => 0) [(0, .d .nilp), (3, .ref 0 0), (4, .ref 1 0)] (fun i => []) [] (fun i => [.cells (cellsT t), .cells [.d (.int .i64 0), .d (.int .i64 0), .d (.str ⟨#[]⟩), .nil0]]) (0) ⟨rfl, rfl, rfl, trivial⟩ trivial rfl trivial fun i hi => ?_
  refine Runs.seq ?_
  refine Runs.rseq ?_
  refine RO.opv (v' := .d .nilp) (opv_move rfl) rfl ?_
  refine RO.opv (v' := .d (enc _)) (opv_load_term rfl rfl rfl) rfl ?_
  refine RO.opv (v' := .d (.bool false)) (opv_callF (bound_nil t) rfl rfl rfl trivial) rfl ?_
  refine RO.nil ?_
  refine Runs.condF rfl ?_
  refine Runs.exit ?_
  refine thenQ_exit ?_
  refine thenQ_exit ?_
  refine blockQ_here ?_
  refine thenQ_normal ?_
  refine Runs.has [(3, .ref 0 0), (4, .ref 1 0)] ⟨rfl, rfl, trivial⟩ ?_
  refine Runs.rseq ?_
  refine RO.opv (v' := .d (enc _)) (opv_load_term rfl rfl rfl) rfl ?_
  refine RO.op0n (O' := [_, _]) (opv_store_term rfl rfl rfl (Nat.le_of_ble_eq_true rfl)) rfl ?_
  refine RO.nil ?_
  refine Runs.ret ?_
  refine EndQ.cell_term (.inr rfl) rfl rfl rfl rfl 0 (by exact Nat.le_refl _) (by exact Nat.zero_le _) ⟨?_, rfl⟩
  rfl
theorem fresh_nil (n : Int) : Fn Try.prog 29 [.d .nilp, .d (.int .i64 n)] [] (.tup [.d (.int .i64 0), .d (.int .i64 5)]) [] := by
  refine Does.run Try.func29 rfl Try.ntmps29 rfl fun K hK => ?_
  refine Runs.rseq ?_
  refine RO.opv (v' := .d (.int _ _)) (opv_assign rfl) rfl ?_
  refine RO.opv (v' := .d (.int _ _)) (opv_assign rfl) rfl ?_
  refine RO.nil ?_
  refine Runs.seq ?_
  refine Runs.block ?_
  refine Runs.rseq ?_
  refine RO.opv (v' := .d .nilp) (opv_move rfl) rfl ?_
  refine RO.opv (v' := .d (.bool true)) (opv_eqnil rfl rfl rfl) rfl ?_
  refine RO.opv (v' := .d (.bool true)) (opv_assign rfl) rfl ?_
  refine RO.nil ?_
  refine Runs.condT rfl ?_
  refine Runs.has [(0, .d .nilp), (1, .d (.int _ _)), (4, .d (.int _ _)), (5, .d (.int _ _))] ⟨rfl, rfl, rfl, rfl, trivial⟩ ?_
  refine Runs.rseq ?_
  refine RO.opv (v' := .d (.int _ _)) (opv_assign rfl) rfl ?_
  refine RO.opv (v' := .d (.int _ _)) (opv_assign rfl) rfl ?_
  refine RO.nil ?_
  refine Runs.ret ?_
  refine blockQ_ret ?_
  refine thenQ_ret ?_
  refine EndQ.tmps2 (.inr rfl) rfl rfl rfl 0 (by exact Nat.le_refl _) (by exact Nat.zero_le _) ⟨trivial, trivial, trivial⟩ ⟨?_, rfl⟩
  rfl
theorem bind_nil (v : Int) (t : Term) : Fn Try.prog 58 [.d .nilp, .d (.int .i64 v), .d (enc t)] [] (.d (.int .i64 5)) [] := by
  refine Does.run Try.func58 rfl Try.ntmps58 rfl fun K hK => ?_
  refine Runs.rseq ?_
  refine RO.opn (v' := .ref 0 0) (O' := [_]) (opv_box_term rfl) rfl rfl ?_
  refine RO.opv (v' := .d (.int _ _)) (opv_assign rfl) rfl ?_
  refine RO.nil ?_
  refine Runs.has [(0, .d .nilp), (1, .d (.int _ _)), (5, .ref 0 0), (6, .d (.int _ _))] ⟨rfl, rfl, rfl, rfl, trivial⟩ ?_
  refine Runs.seq ?_
  refine Runs.block ?_
  refine Runs.rseq ?_
  refine RO.opv (v' := .d .nilp) (opv_move rfl) rfl ?_
  refine RO.opv (v' := .d (.bool true)) (opv_eqnil rfl rfl rfl) rfl ?_
  refine RO.opv (v' := .d (.bool true)) (opv_move rfl) rfl ?_
  refine RO.off rfl ?_
  refine RO.off rfl ?_
  refine RO.opv (v' := .d (.bool true)) (opv_pick rfl rfl) rfl ?_
  refine RO.opv (v' := .d (.bool true)) (opv_move rfl) rfl ?_
  refine RO.off rfl ?_
  refine RO.off rfl ?_
  refine RO.off rfl ?_
  refine RO.off rfl ?_
  refine RO.off rfl ?_
  refine RO.off rfl ?_
  refine RO.off rfl ?_
  refine RO.opv (v' := .d (.bool true)) (opv_pick rfl rfl) rfl ?_
  refine RO.opv (v' := .d (.bool true)) (opv_assign rfl) rfl ?_
  refine RO.nil ?_
  refine Runs.condT rfl ?_
  refine Runs.has [(0, .d .nilp), (1, .d (.int _ _)), (5, .ref 0 0), (6, .d (.int _ _))] ⟨rfl, rfl, rfl, rfl, trivial⟩ ?_
  refine Runs.rseq ?_
  refine RO.opv (v' := .d (.int _ _)) (opv_assign rfl) rfl ?_
  refine RO.nil ?_
  refine Runs.ret ?_
  refine blockQ_ret ?_
  refine thenQ_ret ?_
  refine EndQ.tmp (.inr rfl) rfl rfl 0 (by exact Nat.le_refl _) (by exact Nat.zero_le _) trivial ⟨?_, rfl⟩
  rfl
theorem mark_nil  : Fn Try.prog 19 [.d .nilp] [] (.d (.int .i64 0)) [] := by
  refine Does.run Try.func19 rfl Try.ntmps19 rfl fun K hK => ?_
  refine Runs.rseq ?_
  refine RO.opv (v' := .d (.int _ _)) (opv_assign rfl) rfl ?_
  refine RO.nil ?_
  refine Runs.seq ?_
  refine Runs.rseq ?_
  refine RO.opv (v' := .d .nilp) (opv_move rfl) rfl ?_
  refine RO.opv (v' := .d (.bool true)) (opv_eqnil rfl rfl rfl) rfl ?_
  refine RO.nil ?_
  refine Runs.condT rfl ?_
  refine Runs.has [(0, .d .nilp), (2, .d (.int _ _))] ⟨rfl, rfl, trivial⟩ ?_
  refine Runs.rseq ?_
  refine RO.opv (v' := .d (.int _ _)) (opv_assign rfl) rfl ?_
  refine RO.nil ?_
  refine Runs.ret ?_
  refine thenQ_ret ?_
  refine EndQ.tmp (.inr rfl) rfl rfl 0 (by exact Nat.le_refl _) (by exact Nat.zero_le _) trivial ⟨?_, rfl⟩
  rfl
theorem full_nil (t : Term) : Fn Try.prog 18 [.d .nilp, .d (enc t)] [] (.tup [.d (enc t), .d (.int .i64 0)]) [] := by
  refine Does.run Try.func18 rfl Try.ntmps18 rfl fun K hK => ?_
  refine Runs.rseq ?_
  refine RO.opn (v' := .ref 0 0) (O' := [_]) (opv_box_term rfl) rfl rfl ?_
  refine RO.opn (v' := .ref 1 0) (O' := [_, _]) (opv_alloc) rfl rfl ?_
  refine RO.opv (v' := .d (.int _ _)) (opv_assign rfl) rfl ?_
  refine RO.nil ?_
  refine Runs.has [(0, .d .nilp), (3, .ref 0 0), (4, .ref 1 0), (5, .d (.int _ _))] ⟨rfl, rfl, rfl, rfl, trivial⟩ ?_
  refine Runs.seq ?_
  refine Runs.rseq ?_
  refine RO.opv (v' := .d .nilp) (opv_move rfl) rfl ?_
  refine RO.opv (v' := .d (.bool true)) (opv_eqnil rfl rfl rfl) rfl ?_
  refine RO.nil ?_
  refine Runs.condT rfl ?_
  refine Runs.has [(0, .d .nilp), (3, .ref 0 0), (4, .ref 1 0), (5, .d (.int _ _))] ⟨rfl, rfl, rfl, rfl, trivial⟩ ?_
  refine Runs.rseq ?_
  refine RO.opv (v' := .d (enc _)) (opv_load_term rfl rfl rfl) rfl ?_
  refine RO.op0n (O' := [_, _]) (opv_store_term rfl rfl rfl (Nat.le_of_ble_eq_true rfl)) rfl ?_
  refine RO.opv (v' := .d (.int _ _)) (opv_assign rfl) rfl ?_
  refine RO.nil ?_
  refine Runs.ret ?_
  refine thenQ_ret ?_
  refine EndQ.ct (v := .d (enc _)) (v' := .d (.int _ _)) (.inr rfl) rfl rfl rfl (by exact take_term _) rfl 0 (by exact Nat.le_refl _) (by exact Nat.zero_le _) trivial trivial ⟨?_, rfl⟩
  rfl
end Go.Proofs.Ytegfpnpghfcopaa.AM
