import Derived.Test.YtohncglpjiplaaaTy
namespace Go.Proofs.Ytohncglpjiplaaa.AM
open Go
set_option linter.unusedVariables false
set_option linter.unusedSimpArgs false
theorem walk_fn {S : Type} (x0 x1 x2 : S → AObj) (TL : Nat → AV) (NL : Nat) (ps : Array Tmp) (ag bo jmp : Code) (f : S → Term → S × Bool) (Pre : S → Nat → Prop) (B : Nat) (hy : ∀ (σ : S) (p : Term) (n : Nat), p.bulk ≤ B → Pre σ (n + 1) → Yl Try.prog 3 [.d (enc p)] [x0 (σ), x1 (σ), x2 (σ), .loopo TL NL ps ag bo .ready none] (f σ p).2 [x0 ((f σ p).1), x1 ((f σ p).1), x2 ((f σ p).1), .loopo TL NL ps ag bo (stOf (jOf (f σ p).2 jmp)) (jOf (f σ p).2 jmp)]) (hp : ∀ (σ : S) (p : Term) (n : Nat), Pre σ (n + 1) → (f σ p).2 = true → Pre (f σ p).1 n) (hB : B ≤ 2 ^ 30) : ∀ (m : Nat) (t : Term) (σ : S) (n : Nat), t.size ≤ m → t.bulk ≤ B → Pre σ (t.size + n) → Fn Try.prog 74 [.d (enc t), .yld 3] [x0 (σ), x1 (σ), x2 (σ), .loopo TL NL ps ag bo .ready none] (.d (.bool (walkF f t σ).2)) [x0 ((walkF f t σ).1), x1 ((walkF f t σ).1), x2 ((walkF f t σ).1), .loopo TL NL ps ag bo (stOf (jOf (walkF f t σ).2 jmp)) (jOf (walkF f t σ).2 jmp)] := by
  intro m
  induction m with
  | zero => intro t σ n h; have := t.size_kids; omega
  | succ m ih =>
  intro t σ n hm hb hP
  have hS := t.size_kids
  have hU := t.bulk_kids
  have hL := bulks_len t.kids
  refine Does.run Try.func74 rfl Try.ntmps74 rfl fun K hK => ?_
  refine Runs.rseq ?_
  refine RO.opn (v' := .ref 4 0) (O' := [_, _, _, _, _]) (opv_box_term rfl) rfl rfl ?_
  refine RO.opv (v' := .d (.bool false)) (opv_assign rfl) rfl ?_
  refine RO.nil ?_
  refine Runs.has [(1, .yld 3), (2, .ref 4 0), (4, .d (.bool false))] ⟨rfl, rfl, rfl, trivial⟩ ?_
  refine Runs.seq ?_
  refine Runs.rseq ?_
  refine RO.opv (v' := .yld 3) (opv_move rfl) rfl ?_
  refine RO.opv (v' := .d (enc _)) (opv_load_term rfl rfl rfl) rfl ?_
  refine RO.opn (v' := .d (.bool _)) (O' := [_, _, _, _, _]) (opv_yield (hy σ t (sizes t.kids + n) hb (by rw [hS] at hP; rw [show sizes t.kids + n + 1 = sizes t.kids + 1 + n by omega]; exact hP)) rfl rfl (Nat.le_of_ble_eq_true rfl) ⟨_, _, _, _, _, _, _, rfl⟩ rfl ⟨trivial, trivial⟩) rfl rfl ?_
  refine RO.opc (opv_not rfl rfl) (fun h1 => ?_) (fun h1 => ?_)
  · try simp only [Z.a, Z.b, Z.c, Z.d, Z.e, Z.f, Z.g, Z.h, Z.i, Z.j, Z.k, Z.l, Z.m] at h1
    rw [h1]
    refine RO.nil ?_
    refine Runs.condT rfl ?_
    refine Runs.has [(1, .yld 3), (2, .ref 4 0), (4, .d (.bool false))] ⟨rfl, rfl, rfl, trivial⟩ ?_
    refine Runs.rseq ?_
    refine RO.opv (v' := .d (.bool false)) (opv_assign rfl) rfl ?_
    refine RO.nil ?_
    refine Runs.ret ?_
    refine thenQ_ret ?_
    refine EndQ.tmp (.inr rfl) rfl rfl 4 (by exact Nat.le_refl _) (by simp) trivial ⟨?_, ?_⟩
    · rw [walkF_false h1]; rfl
    · rw [walkF_false h1]; rfl
  · try simp only [Z.a, Z.b, Z.c, Z.d, Z.e, Z.f, Z.g, Z.h, Z.i, Z.j, Z.k, Z.l, Z.m] at h1
    rw [h1]
    refine RO.nil ?_
    refine Runs.condF rfl ?_
    refine Runs.skip ?_
    refine thenQ_normal ?_
    refine Runs.has [(1, .yld 3), (2, .ref 4 0), (4, .d (.bool false))] ⟨rfl, rfl, rfl, trivial⟩ ?_
    refine Runs.seq ?_
    refine Runs.rseq ?_
    refine RO.opv (v' := .ref 4 3) (opv_field_ref rfl rfl) rfl ?_
    refine RO.opv (v' := .d (.list (encs _))) (opv_load_ref rfl rfl rfl) rfl ?_
    refine RO.opv (v' := .d (.int _ _)) (opv_len_terms rfl) rfl ?_
    refine RO.opv (v' := .d (.int _ _)) (opv_move rfl) rfl ?_
    refine RO.nil ?_
    refine Runs.block ?_
    refine Runs.loopC (X := (Nat × S)) (fun x => x.1 ≤ t.kids.length ∧ walksF f (t.kids.drop x.1) x.2 = walksF f t.kids (f σ t).1 ∧ Pre x.2 (sizes (t.kids.drop x.1) + n)) (fun x => t.kids.length - x.1) [(1, .yld 3), (12, .d (.list (encs _))), (13, .d (.int _ _))] (fun x => [(14, .d (.int .i64 (x.1 : Nat)))]) [] (fun x => [x0 x.2, x1 x.2, x2 x.2, .loopo TL NL ps ag bo .ready none, .cells (cellsT t)]) (((0 : Nat), (f σ t).1)) ⟨rfl, rfl, rfl, trivial⟩ ⟨rfl, trivial⟩ rfl ⟨Nat.zero_le _, rfl, hp _ _ _ (by show Pre σ (sizes t.kids + n + 1); rw [hS] at hP; rw [show sizes t.kids + n + 1 = sizes t.kids + 1 + n by omega]; exact hP) h1⟩ fun x hi => ?_
    refine Runs.rseq ?_
    refine RO.opc (opv_bin rfl rfl rfl) (fun h2 => ?_) (fun h2 => ?_)
    · try simp only [Z.a, Z.b, Z.c, Z.d, Z.e, Z.f, Z.g, Z.h, Z.i, Z.j, Z.k, Z.l, Z.m] at h2
      have h2 : x.1 < t.kids.length := by omega
      refine RO.nil ?_
      refine Runs.seq ?_
      refine Runs.condT rfl ?_
      refine Runs.skip ?_
      refine thenQ_normal ?_
      refine Runs.has [(1, .yld 3), (12, .d (.list (encs _))), (13, .d (.int _ _)), (14, .d (.int _ _))] ⟨rfl, rfl, rfl, rfl, trivial⟩ ?_
      refine Runs.seq ?_
      refine Runs.block ?_
      refine Runs.rseq ?_
      refine RO.opv (v' := .d (.ptr _)) (opv_index_terms rfl rfl (by omega)) rfl ?_
      refine RO.opv (v' := .d (enc _)) (opv_load_pterm rfl) rfl ?_
      refine RO.opn (v' := .ref 5 0) (O' := [_, _, _, _, _, _]) (opv_alloc) rfl rfl ?_
      refine RO.op0n (O' := [_, _, _, _, _, _]) (opv_store_term rfl rfl rfl (Nat.le_of_ble_eq_true rfl)) rfl ?_
      refine RO.nil ?_
      refine Runs.has [(1, .yld 3), (6, .ref 5 0), (12, .d (.list (encs _))), (13, .d (.int _ _)), (14, .d (.int _ _))] ⟨rfl, rfl, rfl, rfl, rfl, trivial⟩ ?_
      refine Runs.rseq ?_
      refine RO.opv (v' := .d (enc _)) (opv_load_term rfl rfl rfl) rfl ?_
      refine RO.opv (v' := .yld 3) (opv_move rfl) rfl ?_
      refine RO.opn (v' := .d (.bool _)) (O' := [_, _, _, _, _, _]) (opv_callP 4 (ih t.kids[x.1] x.2 (sizes (t.kids.drop (x.1 + 1)) + n) (by have := sizes_mem (List.getElem_mem h2); omega) (by have := bulks_mem (List.getElem_mem h2); omega) (by have := hi.2.2; rw [drop_get h2, sizes, Nat.add_assoc] at this; exact this)) rfl rfl (Nat.le_of_ble_eq_true rfl) rfl ⟨trivial, Nat.lt_succ_self 3, trivial⟩) rfl rfl ?_
      refine RO.opc (opv_not rfl rfl) (fun h3 => ?_) (fun h3 => ?_)
      · try simp only [Z.a, Z.b, Z.c, Z.d, Z.e, Z.f, Z.g, Z.h, Z.i, Z.j, Z.k, Z.l, Z.m] at h3
        rw [h3]
        refine RO.nil ?_
        refine Runs.condT rfl ?_
        refine Runs.has [(1, .yld 3), (12, .d (.list (encs _))), (13, .d (.int _ _)), (14, .d (.int _ _))] ⟨rfl, rfl, rfl, rfl, trivial⟩ ?_
        refine Runs.rseq ?_
        refine RO.opv (v' := .d (.bool false)) (opv_assign rfl) rfl ?_
        refine RO.nil ?_
        refine Runs.ret ?_
        refine blockQ_ret ?_
        refine thenQ_ret ?_
        refine thenQ_ret ?_
        refine blockQ_ret ?_
        refine thenQ_ret ?_
        refine EndQ.tmp (.inr rfl) rfl rfl 4 (by exact Nat.le_refl _) (by simp) trivial ⟨?_, ?_⟩
        · rw [walkF_true h1, ← hi.2.1, drop_get h2, walksF_false h3]; rfl
        · rw [walkF_true h1, ← hi.2.1, drop_get h2, walksF_false h3]; rfl
      · try simp only [Z.a, Z.b, Z.c, Z.d, Z.e, Z.f, Z.g, Z.h, Z.i, Z.j, Z.k, Z.l, Z.m] at h3
        rw [h3]
        refine RO.nil ?_
        refine Runs.condF rfl ?_
        refine Runs.skip ?_
        refine blockQ_normal ?_
        refine thenQ_normal ?_
        refine Runs.has [(1, .yld 3), (12, .d (.list (encs _))), (13, .d (.int _ _)), (14, .d (.int _ _))] ⟨rfl, rfl, rfl, rfl, trivial⟩ ?_
        refine Runs.region ?_
        refine RO.opv (v' := .d (.int _ _)) (opv_bin rfl rfl rfl) rfl ?_
        refine RO.opv (v' := .d (.int _ _)) (opv_move rfl) rfl ?_
        refine RO.nil ?_
        refine thenQ_normal ?_
        refine ⟨(x.1 + 1, (walkF f t.kids[x.1] x.2).1), 5, (by rw [hK]; exact Nat.le_of_ble_eq_true rfl), ⟨rfl, rfl, rfl, trivial⟩, ⟨?_, trivial⟩, rfl, ?_, ?_⟩
        · refine int_eq ?_; rw [wrap64 (by omega) (by omega)]; omega
        · refine ⟨by show x.1 + 1 ≤ _; omega, ?_, ?_⟩
          · rw [← hi.2.1, drop_get h2, walksF_true h3]
          · refine walkF_pre hp _ _ _ ?_ h3; have := hi.2.2; rw [drop_get h2, sizes, Nat.add_assoc] at this; exact this
        · show t.kids.length - (x.1 + 1) < _; omega
    · try simp only [Z.a, Z.b, Z.c, Z.d, Z.e, Z.f, Z.g, Z.h, Z.i, Z.j, Z.k, Z.l, Z.m] at h2
      have h2 : x.1 = t.kids.length := by omega
      refine RO.nil ?_
      refine Runs.seq ?_
      refine Runs.condF rfl ?_
      refine Runs.exit ?_
      refine thenQ_exit ?_
      refine thenQ_exit ?_
      refine blockQ_here ?_
      refine thenQ_normal ?_
      refine Runs.has [] trivial ?_
      refine Runs.rseq ?_
      refine RO.opv (v' := .d (.bool true)) (opv_assign rfl) rfl ?_
      refine RO.nil ?_
      refine Runs.ret ?_
      refine EndQ.tmp (.inr rfl) rfl rfl 4 (by exact Nat.le_refl _) (by simp) trivial ⟨?_, ?_⟩
      · rw [walkF_true h1, ← hi.2.1, h2, List.drop_length]; rfl
      · rw [walkF_true h1, ← hi.2.1, h2, List.drop_length]; rfl
theorem parts1_fn {S : Type} (x0 x1 x2 : S → AObj) (TL : Nat → AV) (NL : Nat) (ps : Array Tmp) (ag bo jmp : Code) (f : S → Term → S × Bool) (Pre : S → Nat → Prop) (B : Nat) (hy : ∀ (σ : S) (p : Term) (n : Nat), p.bulk ≤ B → Pre σ (n + 1) → Yl Try.prog 3 [.d (enc p)] [x0 (σ), x1 (σ), x2 (σ), .loopo TL NL ps ag bo .ready none] (f σ p).2 [x0 ((f σ p).1), x1 ((f σ p).1), x2 ((f σ p).1), .loopo TL NL ps ag bo (stOf (jOf (f σ p).2 jmp)) (jOf (f σ p).2 jmp)]) (hp : ∀ (σ : S) (p : Term) (n : Nat), Pre σ (n + 1) → (f σ p).2 = true → Pre (f σ p).1 n) (hB : B ≤ 2 ^ 30) (t : Term) (σ : S) (n : Nat) (hb : t.bulk ≤ B) (hP : Pre σ (t.size + n)) (r : S × Bool) (hr : walkF f t σ = r) : Fn Try.prog 73 [.yld 3, .d (.ptr (dcells t))] [x0 (σ), x1 (σ), x2 (σ), .loopo TL NL ps ag bo .ready none] (.tup []) [x0 (r.1), x1 (r.1), x2 (r.1), .loopo TL NL ps ag bo (stOf (jOf r.2 jmp)) (jOf r.2 jmp)] := by
  subst hr
  refine Does.run Try.func73 rfl Try.ntmps73 rfl fun K hK => ?_
  refine Runs.region ?_
  refine RO.opv (v' := .d (enc _)) (opv_load_pterm rfl) rfl ?_
  refine RO.opv (v' := .yld 3) (opv_move rfl) rfl ?_
  refine RO.opn (v' := .d (.bool _)) (O' := [_, _, _, _]) (opv_callP 4 (walk_fn x0 x1 x2 TL NL ps ag bo jmp f Pre B hy hp hB t.size t σ n (Nat.le_refl _) hb hP) rfl rfl (Nat.le_of_ble_eq_true rfl) rfl ⟨trivial, Nat.lt_succ_self 3, trivial⟩) rfl rfl ?_
  refine RO.nil ?_
  refine EndQ.none (.inl rfl) rfl 4 (by exact Nat.le_refl _) (by simp) ⟨rfl, rfl⟩
theorem parts_fn (t : Term) : Fn Try.prog 52 [.d (enc t)] [] (.fn 73 [.d (.ptr (dcells t))]) [] := by
  refine Does.run Try.func52 rfl Try.ntmps52 rfl fun K hK => ?_
  refine Runs.rseq ?_
  refine RO.opn (v' := .ref 0 0) (O' := [_]) (opv_box_term rfl) rfl rfl ?_
  refine RO.opv (v' := .nilf) (opv_assign rfl) rfl ?_
  refine RO.nil ?_
  refine Runs.has [(1, .ref 0 0), (2, .nilf)] ⟨rfl, rfl, trivial⟩ ?_
  refine Runs.freeze 1 rfl rfl rfl ?_
  refine Runs.rseq ?_
  refine RO.opn (v' := .fn 73 _) (O' := [_]) (opv_makeFunc rfl) rfl rfl ?_
  refine RO.opv (v' := .fn 73 _) (opv_assign rfl) rfl ?_
  refine RO.nil ?_
  refine Runs.ret ?_
  refine EndQ.tmp (.inr rfl) rfl rfl 0 (by exact Nat.le_refl _) (by exact Nat.zero_le _) ⟨trivial, trivial⟩ ⟨?_, rfl⟩
  rfl
theorem index_fn (l : List Int) (x : Int) (hl : l.length ≤ 2 ^ 30) : Fn Try.prog 75 [.d (.list (ints l)), .d (.int .i64 x)] [] (.d (.int .i64 (indexOf l x))) [] := by
  refine Does.run Try.func75 rfl Try.ntmps75 rfl fun K hK => ?_
  refine Runs.rseq ?_
  refine RO.opv (v' := .d (.int _ _)) (opv_assign rfl) rfl ?_
  refine RO.nil ?_
  refine Runs.seq ?_
  refine Runs.rseq ?_
  refine RO.opv (v' := .d (.list (ints _))) (opv_move rfl) rfl ?_
  refine RO.opv (v' := .d (.int _ _)) (opv_len_ints rfl) rfl ?_
  refine RO.opv (v' := .d (.int _ _)) (opv_move rfl) rfl ?_
  refine RO.nil ?_
  refine Runs.block ?_
  refine Runs.loopC (X := Nat) (fun i => i ≤ l.length ∧ ∀ (j : Nat) (h : j < l.length), j < i → l[j] ≠ x) (fun i => l.length - i) [(0, .d (.list (ints _))), (1, .d (.int _ _)), (7, .d (.int _ _))] (fun i => [(8, .d (.int .i64 (i : Nat)))]) [] (fun i => []) (0) ⟨rfl, rfl, rfl, trivial⟩ ⟨rfl, trivial⟩ rfl ⟨Nat.zero_le _, fun j h h0 => absurd h0 (Nat.not_lt_zero _)⟩ fun i hi => ?_
  refine Runs.rseq ?_
  refine RO.opc (opv_bin rfl rfl rfl) (fun h1 => ?_) (fun h1 => ?_)
  · try simp only [Z.a, Z.b, Z.c, Z.d, Z.e, Z.f, Z.g, Z.h, Z.i, Z.j, Z.k, Z.l, Z.m] at h1
    have h1 : i < l.length := by omega
    refine RO.nil ?_
    refine Runs.seq ?_
    refine Runs.condT rfl ?_
    refine Runs.skip ?_
    refine thenQ_normal ?_
    refine Runs.has [(0, .d (.list (ints _))), (1, .d (.int _ _)), (7, .d (.int _ _)), (8, .d (.int _ _))] ⟨rfl, rfl, rfl, rfl, trivial⟩ ?_
    refine Runs.seq ?_
    refine Runs.block ?_
    refine Runs.rseq ?_
    refine RO.opv (v' := .d (.int _ _)) (opv_move rfl) rfl ?_
    refine RO.opv (v' := .d (.int _ _)) (opv_assign rfl) rfl ?_
    refine RO.nil ?_
    refine Runs.has [(0, .d (.list (ints _))), (1, .d (.int _ _)), (5, .d (.int _ _)), (7, .d (.int _ _)), (8, .d (.int _ _))] ⟨rfl, rfl, rfl, rfl, rfl, trivial⟩ ?_
    refine Runs.rseq ?_
    refine RO.opv (v' := .d (.int _ _)) (opv_move rfl) rfl ?_
    refine RO.opv (v' := .d (.list (ints _))) (opv_move rfl) rfl ?_
    refine RO.opv (v' := .d (.int _ _)) (opv_move rfl) rfl ?_
    refine RO.opv (v' := .d (.ptr _)) (opv_index_ints rfl rfl (by omega)) rfl ?_
    refine RO.opv (v' := .d (.int _ _)) (opv_load_ptr rfl rfl) rfl ?_
    refine RO.opc (opv_bin rfl rfl rfl) (fun h2 => ?_) (fun h2 => ?_)
    · try simp only [Z.a, Z.b, Z.c, Z.d, Z.e, Z.f, Z.g, Z.h, Z.i, Z.j, Z.k, Z.l, Z.m] at h2
      refine RO.nil ?_
      refine Runs.condT rfl ?_
      refine Runs.has [(0, .d (.list (ints _))), (1, .d (.int _ _)), (5, .d (.int _ _)), (7, .d (.int _ _)), (8, .d (.int _ _))] ⟨rfl, rfl, rfl, rfl, rfl, trivial⟩ ?_
      refine Runs.rseq ?_
      refine RO.opv (v' := .d (.int _ _)) (opv_move rfl) rfl ?_
      refine RO.opv (v' := .d (.int _ _)) (opv_assign rfl) rfl ?_
      refine RO.nil ?_
      refine Runs.ret ?_
      refine blockQ_ret ?_
      refine thenQ_ret ?_
      refine thenQ_ret ?_
      refine blockQ_ret ?_
      refine thenQ_ret ?_
      refine EndQ.tmp (.inr rfl) rfl rfl 0 (by exact Nat.le_refl _) (by exact Nat.zero_le _) trivial ⟨?_, rfl⟩
      refine int_eq ?_; exact (indexOf_at h1 h2 fun j hj => hi.2 j (by omega) hj).symm
    · try simp only [Z.a, Z.b, Z.c, Z.d, Z.e, Z.f, Z.g, Z.h, Z.i, Z.j, Z.k, Z.l, Z.m] at h2
      refine RO.nil ?_
      refine Runs.condF rfl ?_
      refine Runs.skip ?_
      refine blockQ_normal ?_
      refine thenQ_normal ?_
      refine Runs.has [(0, .d (.list (ints _))), (1, .d (.int _ _)), (7, .d (.int _ _)), (8, .d (.int _ _))] ⟨rfl, rfl, rfl, rfl, trivial⟩ ?_
      refine Runs.region ?_
      refine RO.opv (v' := .d (.int _ _)) (opv_bin rfl rfl rfl) rfl ?_
      refine RO.opv (v' := .d (.int _ _)) (opv_move rfl) rfl ?_
      refine RO.nil ?_
      refine thenQ_normal ?_
      refine ⟨i + 1, 0, (by rw [hK]; exact Nat.le_of_ble_eq_true rfl), ⟨rfl, rfl, rfl, trivial⟩, ⟨?_, trivial⟩, rfl, ?_, ?_⟩
      · refine int_eq ?_; rw [wrap64 (by omega) (by omega)]; omega
      · refine ⟨by omega, fun j hj hji => ?_⟩
        by_cases e : j = i
        · subst e; exact fun e => h2 e.symm
        · exact hi.2 j hj (by omega)
      · omega
  · try simp only [Z.a, Z.b, Z.c, Z.d, Z.e, Z.f, Z.g, Z.h, Z.i, Z.j, Z.k, Z.l, Z.m] at h1
    have h1 : i = l.length := by omega
    refine RO.nil ?_
    refine Runs.seq ?_
    refine Runs.condF rfl ?_
    refine Runs.exit ?_
    refine thenQ_exit ?_
    refine thenQ_exit ?_
    refine blockQ_here ?_
    refine thenQ_normal ?_
    refine Runs.has [] trivial ?_
    refine Runs.rseq ?_
    refine RO.opv (v' := .d (.int _ _)) (opv_assign rfl) rfl ?_
    refine RO.nil ?_
    refine Runs.ret ?_
    refine EndQ.tmp (.inr rfl) rfl rfl 0 (by exact Nat.le_refl _) (by exact Nat.zero_le _) trivial ⟨?_, rfl⟩
    refine int_eq ?_; exact (indexOf_none fun j hj => hi.2 j hj (by omega)).symm
theorem contains_fn (l : List Int) (x : Int) (hl : l.length ≤ 2 ^ 30) : Fn Try.prog 53 [.d (.list (ints l)), .d (.int .i64 x)] [] (.d (.bool (decide (x ∈ l)))) [] := by
  refine Does.run Try.func53 rfl Try.ntmps53 rfl fun K hK => ?_
  refine Runs.rseq ?_
  refine RO.opv (v' := .d (.bool false)) (opv_assign rfl) rfl ?_
  refine RO.nil ?_
  refine Runs.rseq ?_
  refine RO.opv (v' := .d (.list (ints _))) (opv_move rfl) rfl ?_
  refine RO.opv (v' := .d (.int _ _)) (opv_move rfl) rfl ?_
  refine RO.opv (v' := .d (.int _ _)) (opv_callF (index_fn l x hl) rfl rfl rfl trivial) rfl ?_
  refine RO.opv (v' := .d (.bool _)) (opv_bin rfl rfl rfl) rfl ?_
  refine RO.opv (v' := .d (.bool _)) (opv_assign rfl) rfl ?_
  refine RO.nil ?_
  refine Runs.ret ?_
  refine EndQ.tmp (.inr rfl) rfl rfl 0 (by exact Nat.le_refl _) (by exact Nat.zero_le _) trivial ⟨?_, rfl⟩
  refine bool_eq ?_; exact indexOf_mem l x
theorem vars_fn (t : Term) (hb : t.bulk ≤ 2 ^ 30) : Fn Try.prog 22 [.d (enc t)] [] (.d (.list (ints t.vars))) [] := by
  have hS := t.size_bulk
  refine Does.run Try.func22 rfl Try.ntmps22 rfl fun K hK => ?_
  refine Runs.rseq ?_
  refine RO.opn (v' := .ref 0 0) (O' := [_]) (opv_box_term rfl) rfl rfl ?_
  refine RO.opv (v' := .nil0) (opv_assign rfl) rfl ?_
  refine RO.nil ?_
  refine Runs.has [(1, .ref 0 0), (2, .nil0)] ⟨rfl, rfl, trivial⟩ ?_
  refine Runs.rseq ?_
  refine RO.opn (v' := .ref 2 0) (O' := [_, _, _]) (opv_alloc_own 3 1) rfl rfl ?_
  refine RO.nil ?_
  refine Runs.seq ?_
  refine Runs.rseq ?_
  refine RO.opv (v' := .d (enc _)) (opv_load_term rfl rfl rfl) rfl ?_
  refine RO.opv (v' := .fn 73 _) (opv_callF (parts_fn t) rfl rfl rfl ⟨trivial, trivial⟩) rfl ?_
  refine RO.nil ?_
  refine Runs.block ?_
  refine Runs.has [(1, .ref 0 0), (3, .ref 2 0), (6, .fn 73 [.d (.ptr (dcells t))])] ⟨rfl, rfl, rfl, trivial⟩ ?_
  refine Runs.rangeFunc (v := .tup []) (O' := [(fun _ => .cells (cellsT t)) t.vars, (fun (σ : List Int) => .buf 3 1 (ints σ) (List.length σ)) t.vars, (fun (σ : List Int) => .cells [.own 1 (List.length σ)]) t.vars]) (st := .ready) (j := none) rfl (tb_unk rfl) (parts1_fn (fun _ => .cells (cellsT t)) (fun (σ : List Int) => .buf 3 1 (ints σ) (List.length σ)) (fun (σ : List Int) => .cells [.own 1 (List.length σ)]) _ _ _ _ _ .ret (fun (σ : List Int) (p : Term) => (addVar σ p, true)) (fun (σ : List Int) n => List.length σ + n ≤ 2 ^ 30) (2 ^ 30) ?_ (fun σ p n h _ => by show (addVar σ p).length + n ≤ 2 ^ 30; have : σ.length + (n + 1) ≤ 2 ^ 30 := h; have := addVar_len σ p; omega) (Nat.le_refl _) t ([]) 0 (hb) (by show 0 + (t.size + 0) ≤ 2 ^ 30; omega) ((t.vars, true)) (walk_vars t)) rfl (by decide) ?_
  · intro σ p n hpB hpre
    have hpre' : σ.length + (n + 1) ≤ 2 ^ 30 := hpre
    try dsimp only
    refine Yl.intro (TL := tb [(1, .ref 0 0), (3, .ref 2 0), (6, .fn 73 [.d (.ptr (dcells t))])]) (NL := 24) (ps := #[7]) (xs := [.d (enc p)]) (Op := [(fun _ => .cells (cellsT t)) σ, (fun (σ : List Int) => .buf 3 1 (ints σ) (List.length σ)) σ, (fun (σ : List Int) => .cells [.own 1 (List.length σ)]) σ]) (O1' := [.cells (cellsT t), .buf 3 1 (ints (addVar σ p)) (addVar σ p).length, .cells [.own 1 (addVar σ p).length]]) (j := none) (by decide) rfl (fun ro K hK => ?_) (tb_unk rfl)
    refine Runs.region ?_
    refine RO.opn (v' := .ref 4 0) (O' := [_, _, _, _, _]) (opv_alloc) rfl rfl ?_
    refine RO.op0n (O' := [_, _, _, _, _]) (opv_store_term rfl rfl rfl (Nat.le_of_ble_eq_true rfl)) rfl ?_
    refine RO.nil ?_
    refine ⟨rfl, rfl, ?_⟩
    refine Runs.block ?_
    refine Runs.rseq ?_
    refine RO.opv (v' := .ref 4 0) (opv_field_ref rfl rfl) rfl ?_
    refine RO.opv (v' := .d (.int _ _)) (opv_load_ref rfl rfl rfl) rfl ?_
    refine RO.opv (v' := .d (.bool _)) (opv_bin rfl rfl rfl) rfl ?_
    refine RO.opc (opv_move rfl) (fun h1 => ?_) (fun h1 => ?_)
    · try simp only [Z.a, Z.b, Z.c, Z.d, Z.e, Z.f, Z.g, Z.h, Z.i, Z.j, Z.k, Z.l, Z.m] at h1
      refine RO.opgv (v' := .own 1 _) rfl (opv_load_ref rfl rfl rfl) rfl ?_
      refine RO.opgv (v' := .ref 4 1) rfl (opv_field_ref rfl rfl) rfl ?_
      refine RO.opgv (v' := .d (.int _ _)) rfl (opv_load_ref rfl rfl rfl) rfl ?_
      refine RO.opgv (v' := .d (.bool _)) rfl (opv_callB (contains_fn σ p.num (by omega)) rfl ⟨.inr (.inr ⟨_, _, _, _, _, rfl, rfl, rfl⟩), .inl rfl, trivial⟩ rfl rfl) rfl ?_
      refine RO.opgv (v' := .d (.bool _)) rfl (opv_not rfl rfl) rfl ?_
      refine RO.opc (opv_pick rfl rfl) (fun h2 => ?_) (fun h2 => ?_)
      · try simp only [Z.a, Z.b, Z.c, Z.d, Z.e, Z.f, Z.g, Z.h, Z.i, Z.j, Z.k, Z.l, Z.m] at h2
        refine RO.nil ?_
        refine Runs.condT rfl ?_
        refine Runs.region ?_
        refine RO.opv (v' := .own 1 _) (opv_load_ref rfl rfl rfl) rfl ?_
        refine RO.opv (v' := .ref 4 1) (opv_field_ref rfl rfl) rfl ?_
        refine RO.opv (v' := .d (.int _ _)) (opv_load_ref rfl rfl rfl) rfl ?_
        refine RO.opv (v' := .d (.list (ints _))) (opv_bs_int1 rfl ) rfl ?_
        refine RO.opn (v' := .own 1 _) (O' := [_, _, _, _, _]) (opv_append_ints rfl rfl rfl (by simp; omega)) rfl rfl ?_
        refine RO.op0n (O' := [_, _, _, _, _]) (opv_store_ref rfl rfl rfl rfl rfl (Nat.le_of_ble_eq_true rfl) rfl) rfl ?_
        refine RO.nil ?_
        refine blockQ_normal ?_
        refine ⟨rfl, rfl, ?_, rfl⟩
        first
          | (have e : addVar σ p = σ ++ [p.num] := if_pos ⟨h1, by simpa using h2⟩
             have e2 : (addVar σ p).length = σ.length + 1 := by rw [e]; simp
             rw [e2, e]
             rfl)
          | (have e : addVar σ p = σ := if_neg (fun hh => hh.2 (by simpa using h2))
             rw [e]
             rfl)
          | (have e : addVar σ p = σ := if_neg (fun hh => h1 hh.1)
             rw [e]
             rfl)
      · try simp only [Z.a, Z.b, Z.c, Z.d, Z.e, Z.f, Z.g, Z.h, Z.i, Z.j, Z.k, Z.l, Z.m] at h2
        refine RO.nil ?_
        refine Runs.condF rfl ?_
        refine Runs.skip ?_
        refine blockQ_normal ?_
        refine ⟨rfl, rfl, ?_, rfl⟩
        first
          | (have e : addVar σ p = σ ++ [p.num] := if_pos ⟨h1, by simpa using h2⟩
             have e2 : (addVar σ p).length = σ.length + 1 := by rw [e]; simp
             rw [e2, e]
             rfl)
          | (have e : addVar σ p = σ := if_neg (fun hh => hh.2 (by simpa using h2))
             rw [e]
             rfl)
          | (have e : addVar σ p = σ := if_neg (fun hh => h1 hh.1)
             rw [e]
             rfl)
    · try simp only [Z.a, Z.b, Z.c, Z.d, Z.e, Z.f, Z.g, Z.h, Z.i, Z.j, Z.k, Z.l, Z.m] at h1
      refine RO.off rfl ?_
      refine RO.off rfl ?_
      refine RO.off rfl ?_
      refine RO.off rfl ?_
      refine RO.off rfl ?_
      refine RO.opv (v' := .d (.bool false)) (opv_pick rfl rfl) rfl ?_
      refine RO.nil ?_
      refine Runs.condF rfl ?_
      refine Runs.skip ?_
      refine blockQ_normal ?_
      refine ⟨rfl, rfl, ?_, rfl⟩
      first
        | (have e : addVar σ p = σ ++ [p.num] := if_pos ⟨h1, by simpa using h2⟩
           have e2 : (addVar σ p).length = σ.length + 1 := by rw [e]; simp
           rw [e2, e]
           rfl)
        | (have e : addVar σ p = σ := if_neg (fun hh => hh.2 (by simpa using h2))
           rw [e]
           rfl)
        | (have e : addVar σ p = σ := if_neg (fun hh => h1 hh.1)
           rw [e]
           rfl)
  refine blockQ_normal ?_
  refine thenQ_normal ?_
  refine Runs.has [(3, .ref 2 0)] ⟨rfl, trivial⟩ ?_
  refine Runs.rseq ?_
  refine RO.opv (v' := .own 1 _) (opv_load_ref rfl rfl rfl) rfl ?_
  refine RO.opv (v' := .own 1 _) (opv_assign rfl) rfl ?_
  refine RO.nil ?_
  refine Runs.shut 2 rfl rfl ?_
  refine Runs.ret ?_
  refine EndQ.tmp (.inr rfl) rfl rfl 0 (by exact Nat.le_refl _) (by exact Nat.zero_le _) trivial ⟨?_, rfl⟩
  rfl
theorem clone_fn (l : List Term) (hl : l.length ≤ 2 ^ 30) : Fn Try.prog 50 [.d (.list (encs l))] [] (.d (.list (encs l))) [] := by
  refine Does.run Try.func50 rfl Try.ntmps50 rfl fun K hK => ?_
  refine Runs.rseq ?_
  refine RO.opv (v' := .nil0) (opv_assign rfl) rfl ?_
  refine RO.nil ?_
  refine Runs.seq ?_
  refine Runs.eqnil rfl rfl rfl (fun h1 => ?_) ?_
  · skip
    refine Runs.condT rfl ?_
    refine Runs.has [(0, .d (.list (encs _))), (2, .nil0)] ⟨rfl, rfl, trivial⟩ ?_
    refine Runs.rseq ?_
    refine RO.opv (v' := .nil0) (opv_assign rfl) rfl ?_
    refine RO.nil ?_
    have hnil := encs_nil h1
    subst hnil
    refine Runs.nz 2 rfl ?_
    refine Runs.ret ?_
    refine thenQ_ret ?_
    refine EndQ.tmp (.inr rfl) rfl rfl 0 (by exact Nat.le_refl _) (by exact Nat.zero_le _) trivial ⟨?_, rfl⟩
    rfl
  · skip
    refine Runs.condF rfl ?_
    refine Runs.skip ?_
    refine thenQ_normal ?_
    refine Runs.has [(0, .d (.list (encs _))), (2, .nil0)] ⟨rfl, rfl, trivial⟩ ?_
    refine Runs.rseq ?_
    refine RO.opv (v' := .nil0) (opv_buildSlice0 rfl) rfl ?_
    refine RO.opv (v' := .d (.list (encs _))) (opv_move rfl) rfl ?_
    refine RO.opn (v' := .own 0 _) (O' := [_]) (opv_append_terms0 rfl rfl (by simpa using hl)) rfl rfl ?_
    refine RO.opv (v' := .own 0 _) (opv_assign rfl) rfl ?_
    refine RO.nil ?_
    refine Runs.shut 2 rfl rfl ?_
    refine Runs.ret ?_
    refine EndQ.tmp (.inr rfl) rfl rfl 0 (by exact Nat.le_refl _) (by exact Nat.zero_le _) trivial ⟨?_, rfl⟩
    rfl
theorem make_fn (s : ByteArray) (ks : List Term) (hl : ks.length ≤ 2 ^ 30) : Fn Try.prog 17 [.d (.str s), .d (.list (encs ks))] [] (.d (enc (.node 3 0 s ks))) [] := by
  refine Does.run Try.func17 rfl Try.ntmps17 rfl fun K hK => ?_
  refine Runs.rseq ?_
  refine RO.opn (v' := .ref 0 0) (O' := [_]) (opv_alloc) rfl rfl ?_
  refine RO.nil ?_
  refine Runs.rseq ?_
  refine RO.opv (v' := .d (.str _)) (opv_move rfl) rfl ?_
  refine RO.opv (v' := .d (.list (encs _))) (opv_move rfl) rfl ?_
  refine RO.opv (v' := .d (.list (encs _))) (opv_callF (clone_fn ks hl) rfl rfl rfl trivial) rfl ?_
  refine RO.opv (v' := .d (enc _)) (opv_build_term rfl rfl) rfl ?_
  refine RO.op0n (O' := [_]) (opv_store_term rfl rfl rfl (Nat.le_of_ble_eq_true rfl)) rfl ?_
  refine RO.nil ?_
  refine Runs.ret ?_
  refine EndQ.cell_term (.inr rfl) rfl rfl rfl rfl 0 (by exact Nat.le_refl _) (by exact Nat.zero_le _) ⟨?_, rfl⟩
  rfl
theorem num_fn (n : Int) : Fn Try.prog 18 [.d (.int .i64 n)] [] (.d (enc (.node 2 n ⟨#[]⟩ []))) [] := by
  refine Does.run Try.func18 rfl Try.ntmps18 rfl fun K hK => ?_
  refine Runs.rseq ?_
  refine RO.opn (v' := .ref 0 0) (O' := [_]) (opv_alloc) rfl rfl ?_
  refine RO.nil ?_
  refine Runs.rseq ?_
  refine RO.opv (v' := .d (.int _ _)) (opv_move rfl) rfl ?_
  refine RO.opv (v' := .d (enc _)) (opv_build_term (ks := []) rfl rfl) rfl ?_
  refine RO.op0n (O' := [_]) (opv_store_term rfl rfl rfl (Nat.le_of_ble_eq_true rfl)) rfl ?_
  refine RO.nil ?_
  refine Runs.ret ?_
  refine EndQ.cell_term (.inr rfl) rfl rfl rfl rfl 0 (by exact Nat.le_refl _) (by exact Nat.zero_le _) ⟨?_, rfl⟩
  rfl
theorem atom_fn (s : ByteArray) : Fn Try.prog 20 [.d (.str s)] [] (.d (enc (.node 3 0 s []))) [] := by
  refine Does.run Try.func20 rfl Try.ntmps20 rfl fun K hK => ?_
  refine Runs.rseq ?_
  refine RO.opn (v' := .ref 0 0) (O' := [_]) (opv_alloc) rfl rfl ?_
  refine RO.nil ?_
  refine Runs.rseq ?_
  refine RO.opv (v' := .d (.str _)) (opv_move rfl) rfl ?_
  refine RO.opv (v' := .d (enc _)) (opv_callZ (make_fn s [] (Nat.zero_le _)) rfl rfl rfl trivial) rfl ?_
  refine RO.op0n (O' := [_]) (opv_store_term rfl rfl rfl (Nat.le_of_ble_eq_true rfl)) rfl ?_
  refine RO.nil ?_
  refine Runs.ret ?_
  refine EndQ.cell_term (.inr rfl) rfl rfl rfl rfl 0 (by exact Nat.le_refl _) (by exact Nat.zero_le _) ⟨?_, rfl⟩
  rfl
end Go.Proofs.Ytohncglpjiplaaa.AM
