import Derived.Test.YtmokkjmoneablaaEg
import Derived.Test.YtmokkjmoneablaaL0
namespace Go.Proofs.Ytmokkjmoneablaa.AM
open Go
set_option linter.unusedVariables false
set_option linter.unusedSimpArgs false
theorem dataBases_fn (n : Int) (ts : List Term) (s : ByteArray) (m : Int) (g1 : 0 ≤ n) (g1' : n ≤ 255) (g2 : bulks ts ≤ 2 ^ 20) (_g2' : fitss ts) (g3 : s.size ≤ 2 ^ 20) (g4 : -9223372036854775808 ≤ m) (g4' : m ≤ 9223372036854775807) : Fn Try.prog 9 [.d (.int .u8 n), .d (.list (encs ts)), .d (.str s), .d (.int .i64 m)] [] (.d (.bool true)) [] := by
  obtain ⟨k, hkn⟩ : ∃ k : Nat, (k : Int) = n.tmod 16 := ⟨(n.tmod 16).toNat, by rw [Int.tmod_eq_emod_of_nonneg g1]; omega⟩
  have hk : k < 16 := by rw [Int.tmod_eq_emod_of_nonneg g1] at hkn; omega
  have hn := C_n hk
  have hrem : n.tmod 16 = (k : Int) := hkn.symm
  obtain ⟨_, hx2, hM⟩ := new_mt (newL_chain hk)
  have hxN := tnew_fn ((k + 1 : Nat) : Int) (chainP k) (by rw [chainP_len]; omega)
  generalize hMe : (newR ((k + 1 : Nat) : Int) (chainP k)).1 = M at hM hxN
  have hM : Mt M (C k) := hM
  have hN := newB_cases (C k) ts
  have hlen := newB_all_len (C k) ts
  have hsm := newB_small (l := C k) (ts := ts) (by omega)
  refine Does.run Try.func9 rfl Try.ntmps9 rfl fun K hK => ?_
  refine Runs.rseq ?_
  refine RO.opv (v' := .d (.bool false)) (opv_assign rfl) rfl ?_
  refine RO.nil ?_
  refine Runs.rseq ?_
  refine RO.opv (v' := .d (.bool true)) (opv_callF (shown_fn) rfl rfl rfl trivial) rfl ?_
  refine RO.opv (v' := .d (.bool true)) (opv_assign rfl) rfl ?_
  refine RO.nil ?_
  refine Runs.has [(0, .d (.int _ _)), (1, .d (.list (encs _))), (2, .d (.str _)), (3, .d (.int _ _)), (8, .d (.bool false)), (9, .d (.bool true))] ⟨rfl, rfl, rfl, rfl, rfl, rfl, trivial⟩ ?_
  refine Runs.rseq ?_
  refine RO.opv (v' := .d (.int _ _)) (opv_move rfl) rfl ?_
  refine RO.opv (v' := .d (.int _ _)) (opv_arith (r := (k : Int)) rfl rfl (by simp only [binD, if_true]; rw [if_neg (by decide), hrem])) rfl ?_
  refine RO.opv (v' := .d (.int _ _)) (opv_conv (r := (k : Int)) rfl (wrap64 (by omega) (by omega))) rfl ?_
  refine RO.opv (v' := .d (.int _ _)) (opv_arith (r := ((k + 1 : Nat) : Int)) rfl rfl (by simp only [binD, if_true]; rw [wrap64 (by omega) (by omega)]; congr 2; omega)) rfl ?_
  refine RO.opv (v' := .d (.int _ _)) (opv_assign rfl) rfl ?_
  refine RO.nil ?_
  refine Runs.has [(1, .d (.list (encs _))), (2, .d (.str _)), (3, .d (.int _ _)), (8, .d (.bool false)), (9, .d (.bool true)), (10, .d (.int _ _))] ⟨rfl, rfl, rfl, rfl, rfl, rfl, trivial⟩ ?_
  refine Runs.rseq ?_
  refine RO.opv (v' := .d (.int _ _)) (opv_move rfl) rfl ?_
  refine RO.opv (v' := .d (.int _ _)) (opv_move rfl) rfl ?_
  refine RO.opv (v' := .d (.list (encPs _))) (opv_callF (chainp_fn k hk) rfl rfl rfl trivial) rfl ?_
  refine RO.opv (opv_callF (lnewC_fn k hk) rfl rfl rfl ⟨trivial, trivial, trivial⟩) rfl ?_
  refine RO.opv (opv_move rfl) rfl ?_
  refine RO.opv (v' := .d (encL _)) (opv_extract rfl rfl) rfl ?_
  refine RO.opv (v' := .d (.int _ _)) (opv_extract rfl rfl) rfl ?_
  refine RO.opv (v' := .d (encL _)) (opv_assign rfl) rfl ?_
  refine RO.opv (v' := .d (.int _ _)) (opv_assign rfl) rfl ?_
  refine RO.nil ?_
  refine Runs.has [(1, .d (.list (encs _))), (2, .d (.str _)), (3, .d (.int _ _)), (8, .d (.bool false)), (9, .d (.bool true)), (10, .d (.int _ _)), (11, .d (encL _))] ⟨rfl, rfl, rfl, rfl, rfl, rfl, rfl, trivial⟩ ?_
  refine Runs.rseq ?_
  refine RO.opv (v' := .d (.int _ _)) (opv_move rfl) rfl ?_
  refine RO.opv (v' := .d (.int _ _)) (opv_move rfl) rfl ?_
  refine RO.opv (v' := .d (.list (encPs _))) (opv_callF (chainp_fn k hk) rfl rfl rfl trivial) rfl ?_
  refine RO.opv (opv_callF (hxN) rfl rfl rfl ⟨trivial, trivial, trivial⟩) rfl ?_
  refine RO.opv (opv_move rfl) rfl ?_
  refine RO.opv (v' := .d (encR _)) (opv_extract rfl rfl) rfl ?_
  refine RO.opv (v' := .d (.int _ _)) (opv_extract rfl rfl) rfl ?_
  refine RO.opn (v' := .ref 0 0) (O' := [_]) (opv_alloc) rfl rfl ?_
  refine RO.op0n (O' := [_]) (opv_store_ref rfl rfl rfl rfl rfl (Nat.le_of_ble_eq_true rfl) rfl) rfl ?_
  refine RO.opv (v' := .d (.int _ _)) (opv_assign rfl) rfl ?_
  refine RO.nil ?_
  refine Runs.has [(1, .d (.list (encs _))), (2, .d (.str _)), (3, .d (.int _ _)), (8, .d (.bool false)), (9, .d (.bool true)), (11, .d (encL _)), (13, .ref 0 0)] ⟨rfl, rfl, rfl, rfl, rfl, rfl, rfl, trivial⟩ ?_
  refine Runs.seq ?_
  refine Runs.rseq ?_
  refine RO.opv (v' := .d (encL _)) (opv_move rfl) rfl ?_
  refine RO.opv (v' := .d (.bool false)) (opv_eqnil rfl rfl rfl) rfl ?_
  refine RO.opv (v' := .d (.bool false)) (opv_move rfl) rfl ?_
  refine RO.opgv (v' := .d (.list (encs _))) rfl (opv_move rfl) rfl ?_
  refine RO.opgv (v' := .d (.bool _)) rfl (opv_callF (few_fn ts (by omega)) rfl rfl rfl trivial) rfl ?_
  refine RO.opgv (v' := .d (.bool _)) rfl (opv_not rfl rfl) rfl ?_
  refine RO.opc (opv_pick rfl rfl) (fun h1 => ?_) (fun h1 => ?_)
  · try simp only [Z.a, Z.b, Z.c, Z.d, Z.e, Z.f, Z.g, Z.h, Z.i, Z.j, Z.k, Z.l, Z.m] at h1
    refine RO.nil ?_
    refine Runs.condT rfl ?_
    refine Runs.has [(1, .d (.list (encs _))), (2, .d (.str _)), (3, .d (.int _ _)), (8, .d (.bool false)), (9, .d (.bool true)), (11, .d (encL _)), (13, .ref 0 0)] ⟨rfl, rfl, rfl, rfl, rfl, rfl, rfl, trivial⟩ ?_
    refine Runs.rseq ?_
    refine RO.opv (v' := .d (.bool true)) (opv_move rfl) rfl ?_
    refine RO.opv (v' := .d (.bool true)) (opv_move rfl) rfl ?_
    refine RO.opgv (v' := .d (encL _)) rfl (opv_move rfl) rfl ?_
    refine RO.opgv (v' := .d (.bool true)) rfl (opv_nenil rfl rfl rfl) rfl ?_
    refine RO.opv (v' := .d (.bool true)) (opv_pick rfl rfl) rfl ?_
    refine RO.opv (v' := .d (.bool true)) (opv_assign rfl) rfl ?_
    refine RO.nil ?_
    refine Runs.ret ?_
    refine thenQ_ret ?_
    refine EndQ.tmp (.inr rfl) rfl rfl 0 (by exact Nat.le_refl _) (by exact Nat.zero_le _) trivial ⟨?_, rfl⟩
    rfl
  · try simp only [Z.a, Z.b, Z.c, Z.d, Z.e, Z.f, Z.g, Z.h, Z.i, Z.j, Z.k, Z.l, Z.m] at h1
    refine RO.nil ?_
    refine Runs.condF rfl ?_
    refine Runs.skip ?_
    refine thenQ_normal ?_
    refine Runs.has [(1, .d (.list (encs _))), (2, .d (.str _)), (3, .d (.int _ _)), (8, .d (.bool false)), (9, .d (.bool true)), (11, .d (encL _)), (13, .ref 0 0)] ⟨rfl, rfl, rfl, rfl, rfl, rfl, rfl, trivial⟩ ?_
    refine Runs.rseq ?_
    refine RO.opv (v' := .d (encL _)) (opv_move rfl) rfl ?_
    refine RO.opv (v' := .d (.list (encs _))) (opv_move rfl) rfl ?_
    refine RO.opv (opv_callF (dnew_fn (C k) (C_ok hk) ts (by omega)) rfl rfl rfl ⟨trivial, trivial, trivial, trivial⟩) rfl ?_
    refine RO.opv (opv_move rfl) rfl ?_
    refine RO.opv (v' := .d (encOB _ _)) (opv_extract rfl rfl) rfl ?_
    refine RO.opv (v' := .d (.int _ _)) (opv_extract rfl rfl) rfl ?_
    refine RO.opv (v' := .d (.int _ _)) (opv_extract rfl rfl) rfl ?_
    refine RO.opv (v' := .d (encOB _ _)) (opv_assign rfl) rfl ?_
    refine RO.opv (v' := .d (.int _ _)) (opv_assign rfl) rfl ?_
    refine RO.opv (v' := .d (.int _ _)) (opv_assign rfl) rfl ?_
    refine RO.nil ?_
    refine Runs.has [(1, .d (.list (encs _))), (2, .d (.str _)), (3, .d (.int _ _)), (8, .d (.bool false)), (9, .d (.bool true)), (13, .ref 0 0), (15, .d (encOB _ _)), (16, .d (.int _ _)), (17, .d (.int _ _))] ⟨rfl, rfl, rfl, rfl, rfl, rfl, rfl, rfl, rfl, trivial⟩ ?_
    refine Runs.rseq ?_
    refine RO.opv (v' := .d (encR _)) (opv_load_ref rfl rfl rfl) rfl ?_
    refine RO.opv (v' := .d (.list (encs _))) (opv_move rfl) rfl ?_
    refine RO.opv (opv_callF (rnew_fn M (C k) hM ts (by omega)) rfl rfl rfl ⟨trivial, trivial, trivial, trivial⟩) rfl ?_
    refine RO.opv (opv_move rfl) rfl ?_
    refine RO.opv (v' := .d (.list (encCls _))) (opv_extract rfl rfl) rfl ?_
    refine RO.opv (v' := .d (.int _ _)) (opv_extract rfl rfl) rfl ?_
    refine RO.opv (v' := .d (.int _ _)) (opv_extract rfl rfl) rfl ?_
    refine RO.opv (v' := .d (.list (encCls _))) (opv_assign rfl) rfl ?_
    refine RO.opv (v' := .d (.int _ _)) (opv_assign rfl) rfl ?_
    refine RO.opv (v' := .d (.int _ _)) (opv_assign rfl) rfl ?_
    refine RO.nil ?_
    refine Runs.has [(2, .d (.str _)), (3, .d (.int _ _)), (8, .d (.bool false)), (9, .d (.bool true)), (13, .ref 0 0), (15, .d (encOB _ _)), (16, .d (.int _ _)), (17, .d (.int _ _)), (18, .d (.list (encCls _))), (19, .d (.int _ _)), (20, .d (.int _ _))] ⟨rfl, rfl, rfl, rfl, rfl, rfl, rfl, rfl, rfl, rfl, rfl, trivial⟩ ?_
    refine Runs.seq ?_
    refine Runs.rseq ?_
    refine RO.opv (v' := .d (.int _ _)) (opv_move rfl) rfl ?_
    refine RO.opv (v' := .d (.int _ _)) (opv_move rfl) rfl ?_
    refine RO.opv (v' := .d (.bool _)) (opv_bin rfl rfl rfl) rfl ?_
    refine RO.opc (opv_move rfl) (fun h2 => ?_) (fun h2 => ?_)
    · try simp only [Z.a, Z.b, Z.c, Z.d, Z.e, Z.f, Z.g, Z.h, Z.i, Z.j, Z.k, Z.l, Z.m] at h2
      exact absurd trivial h2
    · try simp only [Z.a, Z.b, Z.c, Z.d, Z.e, Z.f, Z.g, Z.h, Z.i, Z.j, Z.k, Z.l, Z.m] at h2
      refine RO.opgv (v' := .d (.int _ _)) rfl (opv_move rfl) rfl ?_
      refine RO.opgv (v' := .d (.int _ _)) rfl (opv_move rfl) rfl ?_
      refine RO.opgv (v' := .d (.bool _)) rfl (opv_bin rfl rfl rfl) rfl ?_
      refine RO.opv (v' := .d (.bool _)) (opv_pick rfl rfl) rfl ?_
      refine RO.opc (opv_move rfl) (fun h3 => ?_) (fun h3 => ?_)
      · try simp only [Z.a, Z.b, Z.c, Z.d, Z.e, Z.f, Z.g, Z.h, Z.i, Z.j, Z.k, Z.l, Z.m] at h3
        exact absurd trivial h3
      · try simp only [Z.a, Z.b, Z.c, Z.d, Z.e, Z.f, Z.g, Z.h, Z.i, Z.j, Z.k, Z.l, Z.m] at h3
        refine RO.opgv (v' := .d (encOB _ _)) rfl (opv_move rfl) rfl ?_
        refine RO.opgv (v' := .d (.bool _)) rfl (opv_eqnil_ob rfl rfl) rfl ?_
        refine RO.opgv (v' := .d (.int _ _)) rfl (opv_move rfl) rfl ?_
        refine RO.opgv (v' := .d (.bool _)) rfl (opv_bin rfl rfl rfl) rfl ?_
        refine RO.opgv (v' := .d (.bool _)) rfl (opv_bool rfl rfl rfl) rfl ?_
        refine RO.opv (v' := .d (.bool _)) (opv_pick rfl rfl) rfl ?_
        refine RO.opc (opv_move rfl) (fun h4 => ?_) (fun h4 => ?_)
        · try simp only [Z.a, Z.b, Z.c, Z.d, Z.e, Z.f, Z.g, Z.h, Z.i, Z.j, Z.k, Z.l, Z.m] at h4
          exfalso
          rcases hN with ⟨_, _, m1, m2⟩ | ⟨_, m1, m2⟩
          · rw [m1, m2] at h4; simp at h4
          · rw [m1] at h4; simp [m2] at h4
        · try simp only [Z.a, Z.b, Z.c, Z.d, Z.e, Z.f, Z.g, Z.h, Z.i, Z.j, Z.k, Z.l, Z.m] at h4
          refine RO.opgv (v' := .d (.str _)) rfl (opv_move rfl) rfl ?_
          refine RO.opgv (v' := .d (.int _ _)) rfl (opv_move rfl) rfl ?_
          refine RO.opgv (v' := .d (.bool _)) rfl (opv_callF (known_fn _ _) rfl rfl rfl trivial) rfl ?_
          refine RO.opgv (v' := .d (.str _)) rfl (opv_move rfl) rfl ?_
          refine RO.opgv (v' := .d (.int _ _)) rfl (opv_move rfl) rfl ?_
          refine RO.opgv (v' := .d (.bool _)) rfl (opv_callF (rknown_fn _ _) rfl rfl rfl trivial) rfl ?_
          refine RO.opgv (v' := .d (.bool _)) rfl (opv_bool rfl rfl rfl) rfl ?_
          refine RO.opc (opv_pick rfl rfl) (fun h5 => ?_) (fun h5 => ?_)
          · try simp only [Z.a, Z.b, Z.c, Z.d, Z.e, Z.f, Z.g, Z.h, Z.i, Z.j, Z.k, Z.l, Z.m] at h5
            exact absurd trivial h5
          · try simp only [Z.a, Z.b, Z.c, Z.d, Z.e, Z.f, Z.g, Z.h, Z.i, Z.j, Z.k, Z.l, Z.m] at h5
            refine RO.nil ?_
            refine Runs.condF rfl ?_
            refine Runs.skip ?_
            refine thenQ_normal ?_
            refine Runs.has [(2, .d (.str _)), (3, .d (.int _ _)), (8, .d (.bool false)), (9, .d (.bool true)), (13, .ref 0 0), (15, .d (encOB _ _)), (18, .d (.list (encCls _)))] ⟨rfl, rfl, rfl, rfl, rfl, rfl, rfl, trivial⟩ ?_
            refine Runs.seq ?_
            refine Runs.rseq ?_
            refine RO.opv (v' := .d (encOB _ _)) (opv_move rfl) rfl ?_
            refine RO.opc (opv_eqnil_ob rfl rfl) (fun h6 => ?_) (fun h6 => ?_)
            · try simp only [Z.a, Z.b, Z.c, Z.d, Z.e, Z.f, Z.g, Z.h, Z.i, Z.j, Z.k, Z.l, Z.m] at h6
              have ho : (newB (C k) ts).1 = none := Option.isNone_iff_eq_none.1 h6
              refine RO.nil ?_
              refine Runs.condT rfl ?_
              refine Runs.has [(2, .d (.str _)), (3, .d (.int _ _)), (8, .d (.bool false)), (9, .d (.bool true)), (13, .ref 0 0), (15, .d (encOB _ _)), (18, .d (.list (encCls _)))] ⟨rfl, rfl, rfl, rfl, rfl, rfl, rfl, trivial⟩ ?_
              refine Runs.rseq ?_
              refine RO.opv (v' := .d (.bool true)) (opv_move rfl) rfl ?_
              refine RO.opv (v' := .d (.bool true)) (opv_move rfl) rfl ?_
              refine RO.opgv (v' := .d (encOB _ _)) rfl (opv_move rfl) rfl ?_
              refine RO.opgv (v' := .d (.list (encCls _))) rfl (opv_callF (all_fn (C k) (newB (C k) ts).1 hlen) rfl rfl rfl trivial) rfl ?_
              refine RO.opgv (v' := .d (.int _ _)) rfl (opv_len_cls rfl) rfl ?_
              refine RO.opgv (v' := .d (.bool _)) rfl (opv_bin rfl rfl rfl) rfl ?_
              refine RO.opv (v' := .d (.bool _)) (opv_pick rfl rfl) rfl ?_
              refine RO.opc (opv_move rfl) (fun h7 => ?_) (fun h7 => ?_)
              · try simp only [Z.a, Z.b, Z.c, Z.d, Z.e, Z.f, Z.g, Z.h, Z.i, Z.j, Z.k, Z.l, Z.m] at h7
                refine RO.opgv (v' := .d (encOB _ _)) rfl (opv_move rfl) rfl ?_
                refine RO.opgv (v' := .d (.str _)) rfl (opv_move rfl) rfl ?_
                refine RO.opgv (v' := .d (.int _ _)) rfl (opv_move rfl) rfl ?_
                refine RO.opgv (v' := .d (.list (encCls _))) rfl (opv_callF (get_fn (C k) (newB (C k) ts).1 hlen s m) rfl rfl rfl trivial) rfl ?_
                refine RO.opgv (v' := .d (.int _ _)) rfl (opv_len_cls rfl) rfl ?_
                refine RO.opgv (v' := .d (.bool _)) rfl (opv_bin rfl rfl rfl) rfl ?_
                refine RO.opv (v' := .d (.bool _)) (opv_pick rfl rfl) rfl ?_
                refine RO.opc (opv_move rfl) (fun h8 => ?_) (fun h8 => ?_)
                · try simp only [Z.a, Z.b, Z.c, Z.d, Z.e, Z.f, Z.g, Z.h, Z.i, Z.j, Z.k, Z.l, Z.m] at h8
                  refine RO.opgv (v' := .d (encOB _ _)) rfl (opv_move rfl) rfl ?_
                  refine RO.opgv (v' := .d (.int _ _)) rfl (opv_callF (top_fn (C k) (C_ok hk) (newB (C k) ts).1 hlen hsm) rfl rfl rfl trivial) rfl ?_
                  refine RO.opgv (v' := .d (.bool _)) rfl (opv_bin rfl rfl rfl) rfl ?_
                  refine RO.opv (v' := .d (.bool _)) (opv_pick rfl rfl) rfl ?_
                  refine RO.opv (v' := .d (.bool _)) (opv_assign rfl) rfl ?_
                  refine RO.nil ?_
                  refine Runs.ret ?_
                  refine thenQ_ret ?_
                  refine EndQ.tmp (.inr rfl) rfl rfl 0 (by exact Nat.le_refl _) (by exact Nat.zero_le _) trivial ⟨?_, rfl⟩
                  refine bool_eq ?_; rw [ho]; rfl
                · try simp only [Z.a, Z.b, Z.c, Z.d, Z.e, Z.f, Z.g, Z.h, Z.i, Z.j, Z.k, Z.l, Z.m] at h8
                  rw [ho] at h8; exact absurd rfl h8
              · try simp only [Z.a, Z.b, Z.c, Z.d, Z.e, Z.f, Z.g, Z.h, Z.i, Z.j, Z.k, Z.l, Z.m] at h7
                rw [ho] at h7; exact absurd rfl h7
            · try simp only [Z.a, Z.b, Z.c, Z.d, Z.e, Z.f, Z.g, Z.h, Z.i, Z.j, Z.k, Z.l, Z.m] at h6
              obtain ⟨cs, ho⟩ : ∃ cs, (newB (C k) ts).1 = some cs := by
                rcases hN with ⟨_, _, m1, _⟩ | ⟨_, m1, _⟩
                · exact ⟨_, m1⟩
                · rw [m1] at h6; cases h6
              refine RO.nil ?_
              refine Runs.condF rfl ?_
              refine Runs.skip ?_
              refine thenQ_normal ?_
              refine Runs.has [(2, .d (.str _)), (3, .d (.int _ _)), (8, .d (.bool false)), (9, .d (.bool true)), (13, .ref 0 0), (15, .d (encOB _ _)), (18, .d (.list (encCls _)))] ⟨rfl, rfl, rfl, rfl, rfl, rfl, rfl, trivial⟩ ?_
              refine Runs.seq ?_
              refine Runs.drawn (by kernel_rfl) [] [false, false, false, false, false, false, false, false, false, false, false, false, false, false, false, false, false, false, false, false, false, false, false, false, false, false, false] [false, false, false, false, false, false, false, false, false, false, false, false, false, false, false, false, false, false, false, false, false, false, false, false, false, false, false] (by decide +kernel) ?_
              refine RD.opv (v' := .d (.bool true)) (opv_move rfl) rfl ?_
              refine RD.opv (v' := .d (.bool true)) (opv_move rfl) rfl ?_
              refine RD.opgv (v' := .d (encOB _ _)) rfl (opv_move rfl) rfl ?_
              refine RD.opgv (v' := .d (.list (encCls _))) rfl (opv_callF (all_fn (C k) (newB (C k) ts).1 hlen) rfl rfl rfl trivial) rfl ?_
              refine RD.opgv (v' := .d (.list (encCls _))) rfl (opv_move rfl) rfl ?_
              refine RD.opgv (v' := .d (.bool _)) rfl (opv_callF (rcls_fn (allB (newB (C k) ts).1) (allB (newB (C k) ts).1) hlen hsm hsm) rfl rfl rfl trivial) rfl ?_
              refine RD.opv (v' := .d (.bool _)) (opv_pick rfl rfl) rfl ?_
              refine RD.opc (opv_move rfl) (fun h9 => ?_) (fun h9 => ?_)
              · try simp only [Z.a, Z.b, Z.c, Z.d, Z.e, Z.f, Z.g, Z.h, Z.i, Z.j, Z.k, Z.l, Z.m] at h9
                refine RD.opgv (v' := .d (encOB _ _)) rfl (opv_move rfl) rfl ?_
                refine RD.opgv (v' := .d (.str _)) rfl (opv_move rfl) rfl ?_
                refine RD.opgv (v' := .d (.int _ _)) rfl (opv_move rfl) rfl ?_
                refine RD.opgv (v' := .d (.list (encCls _))) rfl (opv_callF (get_fn (C k) (newB (C k) ts).1 hlen s m) rfl rfl rfl trivial) rfl ?_
                refine RD.opgv (v' := .d (.list (encCls _))) rfl (opv_move rfl) rfl ?_
                refine RD.opgv (v' := .d (.str _)) rfl (opv_move rfl) rfl ?_
                refine RD.opgv (v' := .d (.int _ _)) rfl (opv_move rfl) rfl ?_
                refine RD.opgv (v' := .d (.list (encCls _))) rfl (opv_callF (rget_fn (allB (newB (C k) ts).1) s m hlen) rfl rfl rfl trivial) rfl ?_
                refine RD.opgv (v' := .d (.bool _)) rfl (opv_callF (rcls_fn (getB (allB (newB (C k) ts).1) s m) (getB (allB (newB (C k) ts).1) s m) (Nat.le_trans (getB_len_le _ _ _) hlen) (fun c hc => hsm c (getB_sub hc)) (fun c hc => hsm c (getB_sub hc))) rfl rfl rfl trivial) rfl ?_
                refine RD.opv (v' := .d (.bool _)) (opv_pick rfl rfl) rfl ?_
                refine RD.opc (opv_move rfl) (fun h10 => ?_) (fun h10 => ?_)
                · try simp only [Z.a, Z.b, Z.c, Z.d, Z.e, Z.f, Z.g, Z.h, Z.i, Z.j, Z.k, Z.l, Z.m] at h10
                  refine RD.opgv (v' := .d (encOB _ _)) rfl (opv_move rfl) rfl ?_
                  refine RD.opgv (v' := .d (.int _ _)) rfl (opv_callF (top_fn (C k) (C_ok hk) (newB (C k) ts).1 hlen hsm) rfl rfl rfl trivial) rfl ?_
                  refine RD.opgv (v' := .d (encR _)) rfl (opv_load_ref rfl rfl rfl) rfl ?_
                  refine RD.opgv (v' := .d (.list (encCls _))) rfl (opv_move rfl) rfl ?_
                  refine RD.opgv (v' := .d (.int _ _)) rfl (opv_callF (rtop_fn M (C k) hM (allB (newB (C k) ts).1) hlen hsm) rfl rfl rfl trivial) rfl ?_
                  refine RD.opgv (v' := .d (.bool _)) rfl (opv_bin rfl rfl rfl) rfl ?_
                  refine RD.opv (v' := .d (.bool _)) (opv_pick rfl rfl) rfl ?_
                  refine RD.opv (v' := .d (.bool _)) (opv_assign rfl) rfl ?_
                  refine RD.nil ?_
                  refine thenQ_normal ?_
                  refine Runs.ret ?_
                  refine EndQ.tmp (.inr rfl) rfl rfl 0 (by exact Nat.le_refl _) (by exact Nat.zero_le _) trivial ⟨?_, rfl⟩
                  refine bool_eq ?_
                  rw [ho]
                  simp only [allB, Option.getD_some, topO]
                  rw [rtop_new hk ts ho]; simp
                · try simp only [Z.a, Z.b, Z.c, Z.d, Z.e, Z.f, Z.g, Z.h, Z.i, Z.j, Z.k, Z.l, Z.m] at h10
                  rw [sameCls_refl] at h10; cases h10
              · try simp only [Z.a, Z.b, Z.c, Z.d, Z.e, Z.f, Z.g, Z.h, Z.i, Z.j, Z.k, Z.l, Z.m] at h9
                rw [sameCls_refl] at h9; cases h9
end Go.Proofs.Ytmokkjmoneablaa.AM
