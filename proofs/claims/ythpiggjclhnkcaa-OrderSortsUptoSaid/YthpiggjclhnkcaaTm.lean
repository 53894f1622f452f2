import Derived.Test.YthpiggjclhnkcaaTy
namespace Go.Proofs.Ythpiggjclhnkcaa.AM
open Go
set_option linter.unusedVariables false
set_option linter.unusedSimpArgs false
theorem walk_fn {S : Type} (x0 x1 x2 : S → AObj) (TL : Nat → AV) (NL : Nat) (ps : Array Tmp) (ag bo jmp : Code) (f : S → Term → S × Bool) (Pre : S → Nat → Prop) (B : Nat) (hy : ∀ (σ : S) (p : Term) (n : Nat), p.bulk ≤ B → Pre σ (n + 1) → Yl Try.prog 3 [.d (enc p)] [x0 (σ), x1 (σ), x2 (σ), .loopo TL NL ps ag bo .ready none] (f σ p).2 [x0 ((f σ p).1), x1 ((f σ p).1), x2 ((f σ p).1), .loopo TL NL ps ag bo (stOf (jOf (f σ p).2 jmp)) (jOf (f σ p).2 jmp)]) (hp : ∀ (σ : S) (p : Term) (n : Nat), Pre σ (n + 1) → (f σ p).2 = true → Pre (f σ p).1 n) (hB : B ≤ 2 ^ 30) : ∀ (m : Nat) (t : Term) (σ : S) (n : Nat), t.size ≤ m → t.bulk ≤ B → Pre σ (t.size + n) → Fn Try.prog 53 [.d (enc t), .yld 3] [x0 (σ), x1 (σ), x2 (σ), .loopo TL NL ps ag bo .ready none] (.d (.bool (walkF f t σ).2)) [x0 ((walkF f t σ).1), x1 ((walkF f t σ).1), x2 ((walkF f t σ).1), .loopo TL NL ps ag bo (stOf (jOf (walkF f t σ).2 jmp)) (jOf (walkF f t σ).2 jmp)] := by
  intro m
  induction m with
  | zero => intro t σ n h; have := t.size_kids; omega
  | succ m ih =>
  intro t σ n hm hb hP
  have hS := t.size_kids
  have hU := t.bulk_kids
  have hL := bulks_len t.kids
  refine Does.run Try.func53 rfl Try.ntmps53 rfl fun K hK => ?_
  refine Runs.rseq ?_
  refine RO.opn (v' := .ref 4 0) (O' := [_, _, _, _, _]) (opv_box_term rfl) rfl rfl ?_
  refine RO.opv (v' := .d (.bool false)) (opv_assign rfl) rfl ?_
  refine RO.nil ?_
  refine Runs.has [(1, .yld 3), (2, .ref 4 0), (4, .d (.bool false))] ⟨rfl, rfl, rfl, trivial⟩ ?_
  refine Runs.seq ?_
  refine Runs.rseq ?_
  refine RO.opv (v' := .yld 3) (opv_move rfl) rfl ?_
  refine RO.opv (v' := .d (enc _)) (opv_load_term rfl rfl rfl) rfl ?_
  refine RO.opn (v' := .d (.bool _)) (O' := [_, _, _, _, _]) (opv_yield (hy σ t (sizes t.kids + n) hb (by rw [hS] at hP; rw [show sizes t.kids + n + 1 = sizes t.kids + 1 + n by omega]; exact hP)) rfl rfl (Nat.le_of_ble_eq_true rfl) ⟨_, _, _, _, _, _, _, rfl⟩ rfl ⟨trivial, trivial⟩) rfl rfl ?_
  refine RO.opc (opv_not rfl rfl) (fun h1 => ?_) (fun h1 => ?_)
  · try simp only [Z.a, Z.b, Z.c, Z.d, Z.e, Z.f, Z.g, Z.h, Z.i, Z.j, Z.k, Z.l, Z.m] at h1
    rw [h1]
    refine RO.nil ?_
    refine Runs.condT rfl ?_
    refine Runs.has [(1, .yld 3), (2, .ref 4 0), (4, .d (.bool false))] ⟨rfl, rfl, rfl, trivial⟩ ?_
    refine Runs.rseq ?_
    refine RO.opv (v' := .d (.bool false)) (opv_assign rfl) rfl ?_
    refine RO.nil ?_
    refine Runs.ret ?_
    refine thenQ_ret ?_
    refine EndQ.tmp (.inr rfl) rfl rfl 4 (by exact Nat.le_refl _) (by simp) trivial ⟨?_, ?_⟩
    · rw [walkF_false h1]; rfl
    · rw [walkF_false h1]; rfl
  · try simp only [Z.a, Z.b, Z.c, Z.d, Z.e, Z.f, Z.g, Z.h, Z.i, Z.j, Z.k, Z.l, Z.m] at h1
    rw [h1]
    refine RO.nil ?_
    refine Runs.condF rfl ?_
    refine Runs.skip ?_
    refine thenQ_normal ?_
    refine Runs.has [(1, .yld 3), (2, .ref 4 0), (4, .d (.bool false))] ⟨rfl, rfl, rfl, trivial⟩ ?_
    refine Runs.seq ?_
    refine Runs.rseq ?_
    refine RO.opv (v' := .ref 4 3) (opv_field_ref rfl rfl) rfl ?_
    refine RO.opv (v' := .d (.list (encs _))) (opv_load_ref rfl rfl rfl) rfl ?_
    refine RO.opv (v' := .d (.int _ _)) (opv_len_terms rfl) rfl ?_
    refine RO.opv (v' := .d (.int _ _)) (opv_move rfl) rfl ?_
    refine RO.nil ?_
    refine Runs.block ?_
    refine Runs.loopC (X := (Nat × S)) (fun x => x.1 ≤ t.kids.length ∧ walksF f (t.kids.drop x.1) x.2 = walksF f t.kids (f σ t).1 ∧ Pre x.2 (sizes (t.kids.drop x.1) + n)) (fun x => t.kids.length - x.1) [(1, .yld 3), (12, .d (.list (encs _))), (13, .d (.int _ _))] (fun x => [(14, .d (.int .i64 (x.1 : Nat)))]) [] (fun x => [x0 x.2, x1 x.2, x2 x.2, .loopo TL NL ps ag bo .ready none, .cells (cellsT t)]) (((0 : Nat), (f σ t).1)) ⟨rfl, rfl, rfl, trivial⟩ ⟨rfl, trivial⟩ rfl ⟨Nat.zero_le _, rfl, hp _ _ _ (by show Pre σ (sizes t.kids + n + 1); rw [hS] at hP; rw [show sizes t.kids + n + 1 = sizes t.kids + 1 + n by omega]; exact hP) h1⟩ fun x hi => ?_
    refine Runs.rseq ?_
    refine RO.opc (opv_bin rfl rfl rfl) (fun h2 => ?_) (fun h2 => ?_)
    · try simp only [Z.a, Z.b, Z.c, Z.d, Z.e, Z.f, Z.g, Z.h, Z.i, Z.j, Z.k, Z.l, Z.m] at h2
      have h2 : x.1 < t.kids.length := by omega
      refine RO.nil ?_
      refine Runs.seq ?_
      refine Runs.condT rfl ?_
      refine Runs.skip ?_
      refine thenQ_normal ?_
      refine Runs.has [(1, .yld 3), (12, .d (.list (encs _))), (13, .d (.int _ _)), (14, .d (.int _ _))] ⟨rfl, rfl, rfl, rfl, trivial⟩ ?_
      refine Runs.seq ?_
      refine Runs.block ?_
      refine Runs.rseq ?_
      refine RO.opv (v' := .d (.ptr _)) (opv_index_terms rfl rfl (by omega)) rfl ?_
      refine RO.opv (v' := .d (enc _)) (opv_load_pterm rfl) rfl ?_
      refine RO.opn (v' := .ref 5 0) (O' := [_, _, _, _, _, _]) (opv_alloc) rfl rfl ?_
      refine RO.op0n (O' := [_, _, _, _, _, _]) (opv_store_term rfl rfl rfl (Nat.le_of_ble_eq_true rfl)) rfl ?_
      refine RO.nil ?_
      refine Runs.has [(1, .yld 3), (6, .ref 5 0), (12, .d (.list (encs _))), (13, .d (.int _ _)), (14, .d (.int _ _))] ⟨rfl, rfl, rfl, rfl, rfl, trivial⟩ ?_
      refine Runs.rseq ?_
      refine RO.opv (v' := .d (enc _)) (opv_load_term rfl rfl rfl) rfl ?_
      refine RO.opv (v' := .yld 3) (opv_move rfl) rfl ?_
      refine RO.opn (v' := .d (.bool _)) (O' := [_, _, _, _, _, _]) (opv_callP 4 (ih t.kids[x.1] x.2 (sizes (t.kids.drop (x.1 + 1)) + n) (by have := sizes_mem (List.getElem_mem h2); omega) (by have := bulks_mem (List.getElem_mem h2); omega) (by have := hi.2.2; rw [drop_get h2, sizes, Nat.add_assoc] at this; exact this)) rfl rfl (Nat.le_of_ble_eq_true rfl) rfl ⟨trivial, Nat.lt_succ_self 3, trivial⟩) rfl rfl ?_
      refine RO.opc (opv_not rfl rfl) (fun h3 => ?_) (fun h3 => ?_)
      · try simp only [Z.a, Z.b, Z.c, Z.d, Z.e, Z.f, Z.g, Z.h, Z.i, Z.j, Z.k, Z.l, Z.m] at h3
        rw [h3]
        refine RO.nil ?_
        refine Runs.condT rfl ?_
        refine Runs.has [(1, .yld 3), (12, .d (.list (encs _))), (13, .d (.int _ _)), (14, .d (.int _ _))] ⟨rfl, rfl, rfl, rfl, trivial⟩ ?_
        refine Runs.rseq ?_
        refine RO.opv (v' := .d (.bool false)) (opv_assign rfl) rfl ?_
        refine RO.nil ?_
        refine Runs.ret ?_
        refine blockQ_ret ?_
        refine thenQ_ret ?_
        refine thenQ_ret ?_
        refine blockQ_ret ?_
        refine thenQ_ret ?_
        refine EndQ.tmp (.inr rfl) rfl rfl 4 (by exact Nat.le_refl _) (by simp) trivial ⟨?_, ?_⟩
        · rw [walkF_true h1, ← hi.2.1, drop_get h2, walksF_false h3]; rfl
        · rw [walkF_true h1, ← hi.2.1, drop_get h2, walksF_false h3]; rfl
      · try simp only [Z.a, Z.b, Z.c, Z.d, Z.e, Z.f, Z.g, Z.h, Z.i, Z.j, Z.k, Z.l, Z.m] at h3
        rw [h3]
        refine RO.nil ?_
        refine Runs.condF rfl ?_
        refine Runs.skip ?_
        refine blockQ_normal ?_
        refine thenQ_normal ?_
        refine Runs.has [(1, .yld 3), (12, .d (.list (encs _))), (13, .d (.int _ _)), (14, .d (.int _ _))] ⟨rfl, rfl, rfl, rfl, trivial⟩ ?_
        refine Runs.region ?_
        refine RO.opv (v' := .d (.int _ _)) (opv_bin rfl rfl rfl) rfl ?_
        refine RO.opv (v' := .d (.int _ _)) (opv_move rfl) rfl ?_
        refine RO.nil ?_
        refine thenQ_normal ?_
        refine ⟨(x.1 + 1, (walkF f t.kids[x.1] x.2).1), 5, (by rw [hK]; exact Nat.le_of_ble_eq_true rfl), ⟨rfl, rfl, rfl, trivial⟩, ⟨?_, trivial⟩, rfl, ?_, ?_⟩
        · refine int_eq ?_; rw [wrap64 (by omega) (by omega)]; omega
        · refine ⟨by show x.1 + 1 ≤ _; omega, ?_, ?_⟩
          · rw [← hi.2.1, drop_get h2, walksF_true h3]
          · refine walkF_pre hp _ _ _ ?_ h3; have := hi.2.2; rw [drop_get h2, sizes, Nat.add_assoc] at this; exact this
        · show t.kids.length - (x.1 + 1) < _; omega
    · try simp only [Z.a, Z.b, Z.c, Z.d, Z.e, Z.f, Z.g, Z.h, Z.i, Z.j, Z.k, Z.l, Z.m] at h2
      have h2 : x.1 = t.kids.length := by omega
      refine RO.nil ?_
      refine Runs.seq ?_
      refine Runs.condF rfl ?_
      refine Runs.exit ?_
      refine thenQ_exit ?_
      refine thenQ_exit ?_
      refine blockQ_here ?_
      refine thenQ_normal ?_
      refine Runs.has [] trivial ?_
      refine Runs.rseq ?_
      refine RO.opv (v' := .d (.bool true)) (opv_assign rfl) rfl ?_
      refine RO.nil ?_
      refine Runs.ret ?_
      refine EndQ.tmp (.inr rfl) rfl rfl 4 (by exact Nat.le_refl _) (by simp) trivial ⟨?_, ?_⟩
      · rw [walkF_true h1, ← hi.2.1, h2, List.drop_length]; rfl
      · rw [walkF_true h1, ← hi.2.1, h2, List.drop_length]; rfl
theorem parts1_fn {S : Type} (x0 x1 x2 : S → AObj) (TL : Nat → AV) (NL : Nat) (ps : Array Tmp) (ag bo jmp : Code) (f : S → Term → S × Bool) (Pre : S → Nat → Prop) (B : Nat) (hy : ∀ (σ : S) (p : Term) (n : Nat), p.bulk ≤ B → Pre σ (n + 1) → Yl Try.prog 3 [.d (enc p)] [x0 (σ), x1 (σ), x2 (σ), .loopo TL NL ps ag bo .ready none] (f σ p).2 [x0 ((f σ p).1), x1 ((f σ p).1), x2 ((f σ p).1), .loopo TL NL ps ag bo (stOf (jOf (f σ p).2 jmp)) (jOf (f σ p).2 jmp)]) (hp : ∀ (σ : S) (p : Term) (n : Nat), Pre σ (n + 1) → (f σ p).2 = true → Pre (f σ p).1 n) (hB : B ≤ 2 ^ 30) (t : Term) (σ : S) (n : Nat) (hb : t.bulk ≤ B) (hP : Pre σ (t.size + n)) (r : S × Bool) (hr : walkF f t σ = r) : Fn Try.prog 52 [.yld 3, .d (.ptr (dcells t))] [x0 (σ), x1 (σ), x2 (σ), .loopo TL NL ps ag bo .ready none] (.tup []) [x0 (r.1), x1 (r.1), x2 (r.1), .loopo TL NL ps ag bo (stOf (jOf r.2 jmp)) (jOf r.2 jmp)] := by
  subst hr
  refine Does.run Try.func52 rfl Try.ntmps52 rfl fun K hK => ?_
  refine Runs.region ?_
  refine RO.opv (v' := .d (enc _)) (opv_load_pterm rfl) rfl ?_
  refine RO.opv (v' := .yld 3) (opv_move rfl) rfl ?_
  refine RO.opn (v' := .d (.bool _)) (O' := [_, _, _, _]) (opv_callP 4 (walk_fn x0 x1 x2 TL NL ps ag bo jmp f Pre B hy hp hB t.size t σ n (Nat.le_refl _) hb hP) rfl rfl (Nat.le_of_ble_eq_true rfl) rfl ⟨trivial, Nat.lt_succ_self 3, trivial⟩) rfl rfl ?_
  refine RO.nil ?_
  refine EndQ.none (.inl rfl) rfl 4 (by exact Nat.le_refl _) (by simp) ⟨rfl, rfl⟩
theorem parts_fn (t : Term) : Fn Try.prog 38 [.d (enc t)] [] (.fn 52 [.d (.ptr (dcells t))]) [] := by
  refine Does.run Try.func38 rfl Try.ntmps38 rfl fun K hK => ?_
  refine Runs.rseq ?_
  refine RO.opn (v' := .ref 0 0) (O' := [_]) (opv_box_term rfl) rfl rfl ?_
  refine RO.opv (v' := .nilf) (opv_assign rfl) rfl ?_
  refine RO.nil ?_
  refine Runs.has [(1, .ref 0 0), (2, .nilf)] ⟨rfl, rfl, trivial⟩ ?_
  refine Runs.freeze 1 rfl rfl rfl ?_
  refine Runs.rseq ?_
  refine RO.opn (v' := .fn 52 _) (O' := [_]) (opv_makeFunc rfl) rfl rfl ?_
  refine RO.opv (v' := .fn 52 _) (opv_assign rfl) rfl ?_
  refine RO.nil ?_
  refine Runs.ret ?_
  refine EndQ.tmp (.inr rfl) rfl rfl 0 (by exact Nat.le_refl _) (by exact Nat.zero_le _) ⟨trivial, trivial⟩ ⟨?_, rfl⟩
  rfl
theorem size_fn (t : Term) (hb : t.bulk ≤ 2 ^ 30) : Fn Try.prog 36 [.d (enc t)] [] (.d (.int .i64 (t.size : Nat))) [] := by
  have hS := t.size_bulk
  refine Does.run Try.func36 rfl Try.ntmps36 rfl fun K hK => ?_
  refine Runs.rseq ?_
  refine RO.opn (v' := .ref 0 0) (O' := [_]) (opv_box_term rfl) rfl rfl ?_
  refine RO.opv (v' := .d (.int _ _)) (opv_assign rfl) rfl ?_
  refine RO.nil ?_
  refine Runs.has [(1, .ref 0 0), (2, .d (.int _ _))] ⟨rfl, rfl, trivial⟩ ?_
  refine Runs.rseq ?_
  refine RO.opn (v' := .ref 1 0) (O' := [_, _]) (opv_alloc) rfl rfl ?_
  refine RO.op0n (O' := [_, _]) (opv_store_ref rfl rfl rfl rfl rfl (Nat.le_of_ble_eq_true rfl) rfl) rfl ?_
  refine RO.nil ?_
  refine Runs.seq ?_
  refine Runs.rseq ?_
  refine RO.opv (v' := .d (enc _)) (opv_load_term rfl rfl rfl) rfl ?_
  refine RO.opv (v' := .fn 52 _) (opv_callF (parts_fn t) rfl rfl rfl ⟨trivial, trivial⟩) rfl ?_
  refine RO.nil ?_
  refine Runs.block ?_
  refine Runs.pad ?_
  refine Runs.has [(1, .ref 0 0), (3, .ref 1 0), (5, .fn 52 [.d (.ptr (dcells t))])] ⟨rfl, rfl, rfl, trivial⟩ ?_
  refine Runs.rangeFunc (v := .tup []) (O' := [(fun _ => .cells (cellsT t)) t.size, (fun σ => .cells [.d (.int .i64 (σ : Nat))]) t.size, (fun _ => .dead) t.size]) (st := .ready) (j := none) rfl (tb_unk rfl) (parts1_fn (fun _ => .cells (cellsT t)) (fun σ => .cells [.d (.int .i64 (σ : Nat))]) (fun _ => .dead) _ _ _ _ _ .ret (fun σ _ => (σ + 1, true)) (fun σ n => σ + n ≤ 2 ^ 30) (2 ^ 30) ?_ (fun σ p n h _ => by show σ + 1 + n ≤ 2 ^ 30; have : σ + (n + 1) ≤ 2 ^ 30 := h; omega) (Nat.le_refl _) t (0) 0 (hb) (by show 0 + (t.size + 0) ≤ 2 ^ 30; omega) ((t.size, true)) (walk_size t)) rfl (by decide) ?_
  · intro σ p n hpB hpre
    have hpre' : σ + (n + 1) ≤ 2 ^ 30 := hpre
    try dsimp only
    refine Yl.intro (TL := tb [(1, .ref 0 0), (3, .ref 1 0), (5, .fn 52 [.d (.ptr (dcells t))])]) (NL := 10) (ps := #[6]) (xs := [.d (enc p)]) (Op := [(fun _ => .cells (cellsT t)) σ, (fun σ => .cells [.d (.int .i64 (σ : Nat))]) σ, (fun _ => .dead) σ]) (O1' := [(fun _ => AObj.cells (cellsT t)) (σ + 1), .cells [.d (.int .i64 ((σ + 1 : Nat) : Int))], .dead]) (j := none) (by decide) rfl (fun ro K hK => ?_) (tb_unk rfl)
    refine Runs.skip ?_
    refine ⟨rfl, rfl, ?_⟩
    refine Runs.block ?_
    refine Runs.region ?_
    refine RO.opv (v' := .d (.int _ _)) (opv_load_ref rfl rfl rfl) rfl ?_
    refine RO.opv (v' := .d (.int _ _)) (opv_bin rfl rfl rfl) rfl ?_
    refine RO.op0n (O' := [_, _, _, _]) (opv_store_ref rfl rfl rfl rfl rfl (Nat.le_of_ble_eq_true rfl) rfl) rfl ?_
    refine RO.nil ?_
    refine blockQ_normal ?_
    refine ⟨rfl, rfl, ?_, rfl⟩
    have e : IntKind.i64.wrap ((σ : Int) + 1) = ((σ + 1 : Nat) : Int) := by rw [wrap64 (by omega) (by omega)]; omega
    exact congrArg (fun z => [AObj.cells (cellsT t), .cells [.d (.int .i64 z)], .dead]) e
  refine blockQ_normal ?_
  refine thenQ_normal ?_
  refine Runs.has [(3, .ref 1 0)] ⟨rfl, trivial⟩ ?_
  refine Runs.rseq ?_
  refine RO.opv (v' := .d (.int _ _)) (opv_load_ref rfl rfl rfl) rfl ?_
  refine RO.opv (v' := .d (.int _ _)) (opv_assign rfl) rfl ?_
  refine RO.nil ?_
  refine Runs.ret ?_
  refine EndQ.tmp (.inr rfl) rfl rfl 0 (by exact Nat.le_refl _) (by exact Nat.zero_le _) trivial ⟨?_, rfl⟩
  rfl
theorem index_fn (l : List Int) (x : Int) (hl : l.length ≤ 2 ^ 30) : Fn Try.prog 68 [.d (.list (ints l)), .d (.int .i64 x)] [] (.d (.int .i64 (indexOf l x))) [] := by
  refine Does.run Try.func68 rfl Try.ntmps68 rfl fun K hK => ?_
  refine Runs.rseq ?_
  refine RO.opv (v' := .d (.int _ _)) (opv_assign rfl) rfl ?_
  refine RO.nil ?_
  refine Runs.seq ?_
  refine Runs.rseq ?_
  refine RO.opv (v' := .d (.list (ints _))) (opv_move rfl) rfl ?_
  refine RO.opv (v' := .d (.int _ _)) (opv_len_ints rfl) rfl ?_
  refine RO.opv (v' := .d (.int _ _)) (opv_move rfl) rfl ?_
  refine RO.nil ?_
  refine Runs.block ?_
  refine Runs.loopC (X := Nat) (fun i => i ≤ l.length ∧ ∀ (j : Nat) (h : j < l.length), j < i → l[j] ≠ x) (fun i => l.length - i) [(0, .d (.list (ints _))), (1, .d (.int _ _)), (7, .d (.int _ _))] (fun i => [(8, .d (.int .i64 (i : Nat)))]) [] (fun i => []) (0) ⟨rfl, rfl, rfl, trivial⟩ ⟨rfl, trivial⟩ rfl ⟨Nat.zero_le _, fun j h h0 => absurd h0 (Nat.not_lt_zero _)⟩ fun i hi => ?_
  refine Runs.rseq ?_
  refine RO.opc (opv_bin rfl rfl rfl) (fun h1 => ?_) (fun h1 => ?_)
  · try simp only [Z.a, Z.b, Z.c, Z.d, Z.e, Z.f, Z.g, Z.h, Z.i, Z.j, Z.k, Z.l, Z.m] at h1
    have h1 : i < l.length := by omega
    refine RO.nil ?_
    refine Runs.seq ?_
    refine Runs.condT rfl ?_
    refine Runs.skip ?_
    refine thenQ_normal ?_
    refine Runs.has [(0, .d (.list (ints _))), (1, .d (.int _ _)), (7, .d (.int _ _)), (8, .d (.int _ _))] ⟨rfl, rfl, rfl, rfl, trivial⟩ ?_
    refine Runs.seq ?_
    refine Runs.block ?_
    refine Runs.rseq ?_
    refine RO.opv (v' := .d (.int _ _)) (opv_move rfl) rfl ?_
    refine RO.opv (v' := .d (.int _ _)) (opv_assign rfl) rfl ?_
    refine RO.nil ?_
    refine Runs.has [(0, .d (.list (ints _))), (1, .d (.int _ _)), (5, .d (.int _ _)), (7, .d (.int _ _)), (8, .d (.int _ _))] ⟨rfl, rfl, rfl, rfl, rfl, trivial⟩ ?_
    refine Runs.rseq ?_
    refine RO.opv (v' := .d (.int _ _)) (opv_move rfl) rfl ?_
    refine RO.opv (v' := .d (.list (ints _))) (opv_move rfl) rfl ?_
    refine RO.opv (v' := .d (.int _ _)) (opv_move rfl) rfl ?_
    refine RO.opv (v' := .d (.ptr _)) (opv_index_ints rfl rfl (by omega)) rfl ?_
    refine RO.opv (v' := .d (.int _ _)) (opv_load_ptr rfl rfl) rfl ?_
    refine RO.opc (opv_bin rfl rfl rfl) (fun h2 => ?_) (fun h2 => ?_)
    · try simp only [Z.a, Z.b, Z.c, Z.d, Z.e, Z.f, Z.g, Z.h, Z.i, Z.j, Z.k, Z.l, Z.m] at h2
      refine RO.nil ?_
      refine Runs.condT rfl ?_
      refine Runs.has [(0, .d (.list (ints _))), (1, .d (.int _ _)), (5, .d (.int _ _)), (7, .d (.int _ _)), (8, .d (.int _ _))] ⟨rfl, rfl, rfl, rfl, rfl, trivial⟩ ?_
      refine Runs.rseq ?_
      refine RO.opv (v' := .d (.int _ _)) (opv_move rfl) rfl ?_
      refine RO.opv (v' := .d (.int _ _)) (opv_assign rfl) rfl ?_
      refine RO.nil ?_
      refine Runs.ret ?_
      refine blockQ_ret ?_
      refine thenQ_ret ?_
      refine thenQ_ret ?_
      refine blockQ_ret ?_
      refine thenQ_ret ?_
      refine EndQ.tmp (.inr rfl) rfl rfl 0 (by exact Nat.le_refl _) (by exact Nat.zero_le _) trivial ⟨?_, rfl⟩
      refine int_eq ?_; exact (indexOf_at h1 h2 fun j hj => hi.2 j (by omega) hj).symm
    · try simp only [Z.a, Z.b, Z.c, Z.d, Z.e, Z.f, Z.g, Z.h, Z.i, Z.j, Z.k, Z.l, Z.m] at h2
      refine RO.nil ?_
      refine Runs.condF rfl ?_
      refine Runs.skip ?_
      refine blockQ_normal ?_
      refine thenQ_normal ?_
      refine Runs.has [(0, .d (.list (ints _))), (1, .d (.int _ _)), (7, .d (.int _ _)), (8, .d (.int _ _))] ⟨rfl, rfl, rfl, rfl, trivial⟩ ?_
      refine Runs.region ?_
      refine RO.opv (v' := .d (.int _ _)) (opv_bin rfl rfl rfl) rfl ?_
      refine RO.opv (v' := .d (.int _ _)) (opv_move rfl) rfl ?_
      refine RO.nil ?_
      refine thenQ_normal ?_
      refine ⟨i + 1, 0, (by rw [hK]; exact Nat.le_of_ble_eq_true rfl), ⟨rfl, rfl, rfl, trivial⟩, ⟨?_, trivial⟩, rfl, ?_, ?_⟩
      · refine int_eq ?_; rw [wrap64 (by omega) (by omega)]; omega
      · refine ⟨by omega, fun j hj hji => ?_⟩
        by_cases e : j = i
        · subst e; exact fun e => h2 e.symm
        · exact hi.2 j hj (by omega)
      · omega
  · try simp only [Z.a, Z.b, Z.c, Z.d, Z.e, Z.f, Z.g, Z.h, Z.i, Z.j, Z.k, Z.l, Z.m] at h1
    have h1 : i = l.length := by omega
    refine RO.nil ?_
    refine Runs.seq ?_
    refine Runs.condF rfl ?_
    refine Runs.exit ?_
    refine thenQ_exit ?_
    refine thenQ_exit ?_
    refine blockQ_here ?_
    refine thenQ_normal ?_
    refine Runs.has [] trivial ?_
    refine Runs.rseq ?_
    refine RO.opv (v' := .d (.int _ _)) (opv_assign rfl) rfl ?_
    refine RO.nil ?_
    refine Runs.ret ?_
    refine EndQ.tmp (.inr rfl) rfl rfl 0 (by exact Nat.le_refl _) (by exact Nat.zero_le _) trivial ⟨?_, rfl⟩
    refine int_eq ?_; exact (indexOf_none fun j hj => hi.2 j hj (by omega)).symm
theorem contains_fn (l : List Int) (x : Int) (hl : l.length ≤ 2 ^ 30) : Fn Try.prog 62 [.d (.list (ints l)), .d (.int .i64 x)] [] (.d (.bool (decide (x ∈ l)))) [] := by
  refine Does.run Try.func62 rfl Try.ntmps62 rfl fun K hK => ?_
  refine Runs.rseq ?_
  refine RO.opv (v' := .d (.bool false)) (opv_assign rfl) rfl ?_
  refine RO.nil ?_
  refine Runs.rseq ?_
  refine RO.opv (v' := .d (.list (ints _))) (opv_move rfl) rfl ?_
  refine RO.opv (v' := .d (.int _ _)) (opv_move rfl) rfl ?_
  refine RO.opv (v' := .d (.int _ _)) (opv_callF (index_fn l x hl) rfl rfl rfl trivial) rfl ?_
  refine RO.opv (v' := .d (.bool _)) (opv_bin rfl rfl rfl) rfl ?_
  refine RO.opv (v' := .d (.bool _)) (opv_assign rfl) rfl ?_
  refine RO.nil ?_
  refine Runs.ret ?_
  refine EndQ.tmp (.inr rfl) rfl rfl 0 (by exact Nat.le_refl _) (by exact Nat.zero_le _) trivial ⟨?_, rfl⟩
  refine bool_eq ?_; exact indexOf_mem l x
theorem deep_aux  : ∀ (m : Nat) (t : Term), t.size ≤ m → t.bulk ≤ 2 ^ 30 → Fn Try.prog 37 [.d (enc t)] [] (.d (.int .i64 (t.deep : Nat))) [] := by
  intro m
  induction m with
  | zero => intro t h; have := t.size_kids; omega
  | succ m ih =>
  intro t hm hb
  have hS := t.size_kids
  have hU := t.bulk_kids
  have hL := bulks_len t.kids
  have hD := t.deep_kids
  have hX := deeps_sizes t.kids
  have hY := sizes_bulks t.kids
  refine Does.run Try.func37 rfl Try.ntmps37 rfl fun K hK => ?_
  refine Runs.rseq ?_
  refine RO.opn (v' := .ref 0 0) (O' := [_]) (opv_box_term rfl) rfl rfl ?_
  refine RO.opv (v' := .d (.int _ _)) (opv_assign rfl) rfl ?_
  refine RO.nil ?_
  refine Runs.has [(1, .ref 0 0), (2, .d (.int _ _))] ⟨rfl, rfl, trivial⟩ ?_
  refine Runs.rseq ?_
  refine RO.opv (v' := .d (.int _ _)) (opv_assign rfl) rfl ?_
  refine RO.nil ?_
  refine Runs.seq ?_
  refine Runs.rseq ?_
  refine RO.opv (v' := .ref 0 3) (opv_field_ref rfl rfl) rfl ?_
  refine RO.opv (v' := .d (.list (encs _))) (opv_load_ref rfl rfl rfl) rfl ?_
  refine RO.opv (v' := .d (.int _ _)) (opv_len_terms rfl) rfl ?_
  refine RO.opv (v' := .d (.int _ _)) (opv_move rfl) rfl ?_
  refine RO.nil ?_
  refine Runs.block ?_
  refine Runs.loopC (X := Nat) (fun i => i ≤ t.kids.length) (fun i => t.kids.length - i) [(2, .d (.int _ _)), (7, .d (.list (encs _))), (8, .d (.int _ _))] (fun i => [(3, .d (.int .i64 (deeps (t.kids.take i) : Nat))), (9, .d (.int .i64 (i : Nat)))]) [_] (fun i => []) (0) ⟨rfl, rfl, rfl, trivial⟩ ⟨rfl, rfl, trivial⟩ rfl (by omega) fun i hi => ?_
  refine Runs.rseq ?_
  refine RO.opc (opv_bin rfl rfl rfl) (fun h1 => ?_) (fun h1 => ?_)
  · try simp only [Z.a, Z.b, Z.c, Z.d, Z.e, Z.f, Z.g, Z.h, Z.i, Z.j, Z.k, Z.l, Z.m] at h1
    have h1 : i < t.kids.length := by omega
    refine RO.nil ?_
    refine Runs.seq ?_
    refine Runs.condT rfl ?_
    refine Runs.skip ?_
    refine thenQ_normal ?_
    refine Runs.has [(2, .d (.int _ _)), (3, .d (.int _ _)), (7, .d (.list (encs _))), (8, .d (.int _ _)), (9, .d (.int _ _))] ⟨rfl, rfl, rfl, rfl, rfl, trivial⟩ ?_
    refine Runs.seq ?_
    refine Runs.block ?_
    refine Runs.rseq ?_
    refine RO.opv (v' := .d (.ptr _)) (opv_index_terms rfl rfl (by omega)) rfl ?_
    refine RO.opv (v' := .d (enc _)) (opv_load_pterm rfl) rfl ?_
    refine RO.opn (v' := .ref 1 0) (O' := [_, _]) (opv_alloc) rfl rfl ?_
    refine RO.op0n (O' := [_, _]) (opv_store_term rfl rfl rfl (Nat.le_of_ble_eq_true rfl)) rfl ?_
    refine RO.nil ?_
    refine Runs.has [(2, .d (.int _ _)), (3, .d (.int _ _)), (5, .ref 1 0), (7, .d (.list (encs _))), (8, .d (.int _ _)), (9, .d (.int _ _))] ⟨rfl, rfl, rfl, rfl, rfl, rfl, trivial⟩ ?_
    refine Runs.region ?_
    refine RO.opv (v' := .d (.int _ _)) (opv_move rfl) rfl ?_
    refine RO.opv (v' := .d (enc _)) (opv_load_term rfl rfl rfl) rfl ?_
    refine RO.opv (v' := .d (.int _ _)) (opv_callF (ih t.kids[i] (by have := sizes_mem (List.getElem_mem h1); omega) (by have := bulks_mem (List.getElem_mem h1); omega)) rfl rfl rfl trivial) rfl ?_
    refine RO.opv (v' := .d (.int _ _)) (opv_max rfl rfl rfl) rfl ?_
    refine RO.opv (v' := .d (.int _ _)) (opv_assign rfl) rfl ?_
    refine RO.nil ?_
    refine blockQ_normal ?_
    refine thenQ_normal ?_
    refine Runs.has [(2, .d (.int _ _)), (3, .d (.int _ _)), (7, .d (.list (encs _))), (8, .d (.int _ _)), (9, .d (.int _ _))] ⟨rfl, rfl, rfl, rfl, rfl, trivial⟩ ?_
    refine Runs.region ?_
    refine RO.opv (v' := .d (.int _ _)) (opv_bin rfl rfl rfl) rfl ?_
    refine RO.opv (v' := .d (.int _ _)) (opv_move rfl) rfl ?_
    refine RO.nil ?_
    refine thenQ_normal ?_
    refine ⟨i+1, 1, (by rw [hK]; exact Nat.le_of_ble_eq_true rfl), ⟨rfl, rfl, rfl, trivial⟩, ⟨?_, ?_, trivial⟩, rfl, ?_, ?_⟩
    · refine int_eq ?_; rw [deeps_take t.kids i t.kids[i] (by simp)]; split <;> omega
    · refine int_eq ?_; rw [wrap64 (by omega) (by omega)]; omega
    · omega
    · omega
  · try simp only [Z.a, Z.b, Z.c, Z.d, Z.e, Z.f, Z.g, Z.h, Z.i, Z.j, Z.k, Z.l, Z.m] at h1
    have h1 : i = t.kids.length := by omega
    refine RO.nil ?_
    refine Runs.seq ?_
    refine Runs.condF rfl ?_
    refine Runs.exit ?_
    refine thenQ_exit ?_
    refine thenQ_exit ?_
    refine blockQ_here ?_
    refine thenQ_normal ?_
    refine Runs.has [(2, .d (.int _ _)), (3, .d (.int _ _))] ⟨rfl, rfl, trivial⟩ ?_
    refine Runs.rseq ?_
    refine RO.opv (v' := .d (.int _ _)) (opv_move rfl) rfl ?_
    refine RO.opv (v' := .d (.int _ _)) (opv_bin rfl rfl rfl) rfl ?_
    refine RO.opv (v' := .d (.int _ _)) (opv_assign rfl) rfl ?_
    refine RO.nil ?_
    refine Runs.ret ?_
    refine EndQ.tmp (.inr rfl) rfl rfl 0 (by exact Nat.le_refl _) (by exact Nat.zero_le _) trivial ⟨?_, rfl⟩
    refine int_eq ?_; subst h1; rw [List.take_length, hD, wrap64 (by omega) (by omega)]; omega
theorem deep_fn (t : Term) (hb : t.bulk ≤ 2 ^ 30) : Fn Try.prog 37 [.d (enc t)] [] (.d (.int .i64 (t.deep : Nat))) [] := deep_aux t.size t (Nat.le_refl _) hb
theorem vars_fn (t : Term) (hb : t.bulk ≤ 2 ^ 30) : Fn Try.prog 54 [.d (enc t)] [] (.d (.list (ints t.vars))) [] := by
  have hS := t.size_bulk
  refine Does.run Try.func54 rfl Try.ntmps54 rfl fun K hK => ?_
  refine Runs.rseq ?_
  refine RO.opn (v' := .ref 0 0) (O' := [_]) (opv_box_term rfl) rfl rfl ?_
  refine RO.opv (v' := .nil0) (opv_assign rfl) rfl ?_
  refine RO.nil ?_
  refine Runs.has [(1, .ref 0 0), (2, .nil0)] ⟨rfl, rfl, trivial⟩ ?_
  refine Runs.rseq ?_
  refine RO.opn (v' := .ref 2 0) (O' := [_, _, _]) (opv_alloc_own 3 1) rfl rfl ?_
  refine RO.nil ?_
  refine Runs.seq ?_
  refine Runs.rseq ?_
  refine RO.opv (v' := .d (enc _)) (opv_load_term rfl rfl rfl) rfl ?_
  refine RO.opv (v' := .fn 52 _) (opv_callF (parts_fn t) rfl rfl rfl ⟨trivial, trivial⟩) rfl ?_
  refine RO.nil ?_
  refine Runs.block ?_
  refine Runs.has [(1, .ref 0 0), (3, .ref 2 0), (6, .fn 52 [.d (.ptr (dcells t))])] ⟨rfl, rfl, rfl, trivial⟩ ?_
  refine Runs.rangeFunc (v := .tup []) (O' := [(fun _ => .cells (cellsT t)) t.vars, (fun (σ : List Int) => .buf 3 1 (ints σ) (List.length σ)) t.vars, (fun (σ : List Int) => .cells [.own 1 (List.length σ)]) t.vars]) (st := .ready) (j := none) rfl (tb_unk rfl) (parts1_fn (fun _ => .cells (cellsT t)) (fun (σ : List Int) => .buf 3 1 (ints σ) (List.length σ)) (fun (σ : List Int) => .cells [.own 1 (List.length σ)]) _ _ _ _ _ .ret (fun (σ : List Int) (p : Term) => (addVar σ p, true)) (fun (σ : List Int) n => List.length σ + n ≤ 2 ^ 30) (2 ^ 30) ?_ (fun σ p n h _ => by show (addVar σ p).length + n ≤ 2 ^ 30; have : σ.length + (n + 1) ≤ 2 ^ 30 := h; have := addVar_len σ p; omega) (Nat.le_refl _) t ([]) 0 (hb) (by show 0 + (t.size + 0) ≤ 2 ^ 30; omega) ((t.vars, true)) (walk_vars t)) rfl (by decide) ?_
  · intro σ p n hpB hpre
    have hpre' : σ.length + (n + 1) ≤ 2 ^ 30 := hpre
    try dsimp only
    refine Yl.intro (TL := tb [(1, .ref 0 0), (3, .ref 2 0), (6, .fn 52 [.d (.ptr (dcells t))])]) (NL := 24) (ps := #[7]) (xs := [.d (enc p)]) (Op := [(fun _ => .cells (cellsT t)) σ, (fun (σ : List Int) => .buf 3 1 (ints σ) (List.length σ)) σ, (fun (σ : List Int) => .cells [.own 1 (List.length σ)]) σ]) (O1' := [.cells (cellsT t), .buf 3 1 (ints (addVar σ p)) (addVar σ p).length, .cells [.own 1 (addVar σ p).length]]) (j := none) (by decide) rfl (fun ro K hK => ?_) (tb_unk rfl)
    refine Runs.region ?_
    refine RO.opn (v' := .ref 4 0) (O' := [_, _, _, _, _]) (opv_alloc) rfl rfl ?_
    refine RO.op0n (O' := [_, _, _, _, _]) (opv_store_term rfl rfl rfl (Nat.le_of_ble_eq_true rfl)) rfl ?_
    refine RO.nil ?_
    refine ⟨rfl, rfl, ?_⟩
    refine Runs.block ?_
    refine Runs.rseq ?_
    refine RO.opv (v' := .ref 4 0) (opv_field_ref rfl rfl) rfl ?_
    refine RO.opv (v' := .d (.int _ _)) (opv_load_ref rfl rfl rfl) rfl ?_
    refine RO.opv (v' := .d (.bool _)) (opv_bin rfl rfl rfl) rfl ?_
    refine RO.opc (opv_move rfl) (fun h1 => ?_) (fun h1 => ?_)
    · try simp only [Z.a, Z.b, Z.c, Z.d, Z.e, Z.f, Z.g, Z.h, Z.i, Z.j, Z.k, Z.l, Z.m] at h1
      refine RO.opgv (v' := .own 1 _) rfl (opv_load_ref rfl rfl rfl) rfl ?_
      refine RO.opgv (v' := .ref 4 1) rfl (opv_field_ref rfl rfl) rfl ?_
      refine RO.opgv (v' := .d (.int _ _)) rfl (opv_load_ref rfl rfl rfl) rfl ?_
      refine RO.opgv (v' := .d (.bool _)) rfl (opv_callB (contains_fn σ p.num (by omega)) rfl ⟨.inr (.inr ⟨_, _, _, _, _, rfl, rfl, rfl⟩), .inl rfl, trivial⟩ rfl rfl) rfl ?_
      refine RO.opgv (v' := .d (.bool _)) rfl (opv_not rfl rfl) rfl ?_
      refine RO.opc (opv_pick rfl rfl) (fun h2 => ?_) (fun h2 => ?_)
      · try simp only [Z.a, Z.b, Z.c, Z.d, Z.e, Z.f, Z.g, Z.h, Z.i, Z.j, Z.k, Z.l, Z.m] at h2
        refine RO.nil ?_
        refine Runs.condT rfl ?_
        refine Runs.region ?_
        refine RO.opv (v' := .own 1 _) (opv_load_ref rfl rfl rfl) rfl ?_
        refine RO.opv (v' := .ref 4 1) (opv_field_ref rfl rfl) rfl ?_
        refine RO.opv (v' := .d (.int _ _)) (opv_load_ref rfl rfl rfl) rfl ?_
        refine RO.opv (v' := .d (.list (ints _))) (opv_bs_int1 rfl ) rfl ?_
        refine RO.opn (v' := .own 1 _) (O' := [_, _, _, _, _]) (opv_append_ints rfl rfl rfl (by simp; omega)) rfl rfl ?_
        refine RO.op0n (O' := [_, _, _, _, _]) (opv_store_ref rfl rfl rfl rfl rfl (Nat.le_of_ble_eq_true rfl) rfl) rfl ?_
        refine RO.nil ?_
        refine blockQ_normal ?_
        refine ⟨rfl, rfl, ?_, rfl⟩
        first
          | (have e : addVar σ p = σ ++ [p.num] := if_pos ⟨h1, by simpa using h2⟩
             have e2 : (addVar σ p).length = σ.length + 1 := by rw [e]; simp
             rw [e2, e]
             rfl)
          | (have e : addVar σ p = σ := if_neg (fun hh => hh.2 (by simpa using h2))
             rw [e]
             rfl)
          | (have e : addVar σ p = σ := if_neg (fun hh => h1 hh.1)
             rw [e]
             rfl)
      · try simp only [Z.a, Z.b, Z.c, Z.d, Z.e, Z.f, Z.g, Z.h, Z.i, Z.j, Z.k, Z.l, Z.m] at h2
        refine RO.nil ?_
        refine Runs.condF rfl ?_
        refine Runs.skip ?_
        refine blockQ_normal ?_
        refine ⟨rfl, rfl, ?_, rfl⟩
        first
          | (have e : addVar σ p = σ ++ [p.num] := if_pos ⟨h1, by simpa using h2⟩
             have e2 : (addVar σ p).length = σ.length + 1 := by rw [e]; simp
             rw [e2, e]
             rfl)
          | (have e : addVar σ p = σ := if_neg (fun hh => hh.2 (by simpa using h2))
             rw [e]
             rfl)
          | (have e : addVar σ p = σ := if_neg (fun hh => h1 hh.1)
             rw [e]
             rfl)
    · try simp only [Z.a, Z.b, Z.c, Z.d, Z.e, Z.f, Z.g, Z.h, Z.i, Z.j, Z.k, Z.l, Z.m] at h1
      refine RO.off rfl ?_
      refine RO.off rfl ?_
      refine RO.off rfl ?_
      refine RO.off rfl ?_
      refine RO.off rfl ?_
      refine RO.opv (v' := .d (.bool false)) (opv_pick rfl rfl) rfl ?_
      refine RO.nil ?_
      refine Runs.condF rfl ?_
      refine Runs.skip ?_
      refine blockQ_normal ?_
      refine ⟨rfl, rfl, ?_, rfl⟩
      first
        | (have e : addVar σ p = σ ++ [p.num] := if_pos ⟨h1, by simpa using h2⟩
           have e2 : (addVar σ p).length = σ.length + 1 := by rw [e]; simp
           rw [e2, e]
           rfl)
        | (have e : addVar σ p = σ := if_neg (fun hh => hh.2 (by simpa using h2))
           rw [e]
           rfl)
        | (have e : addVar σ p = σ := if_neg (fun hh => h1 hh.1)
           rw [e]
           rfl)
  refine blockQ_normal ?_
  refine thenQ_normal ?_
  refine Runs.has [(3, .ref 2 0)] ⟨rfl, trivial⟩ ?_
  refine Runs.rseq ?_
  refine RO.opv (v' := .own 1 _) (opv_load_ref rfl rfl rfl) rfl ?_
  refine RO.opv (v' := .own 1 _) (opv_assign rfl) rfl ?_
  refine RO.nil ?_
  refine Runs.shut 2 rfl rfl ?_
  refine Runs.ret ?_
  refine EndQ.tmp (.inr rfl) rfl rfl 0 (by exact Nat.le_refl _) (by exact Nat.zero_le _) trivial ⟨?_, rfl⟩
  rfl
theorem clone_fn (l : List Term) (hl : l.length ≤ 2 ^ 30) : Fn Try.prog 46 [.d (.list (encs l))] [] (.d (.list (encs l))) [] := by
  refine Does.run Try.func46 rfl Try.ntmps46 rfl fun K hK => ?_
  refine Runs.rseq ?_
  refine RO.opv (v' := .nil0) (opv_assign rfl) rfl ?_
  refine RO.nil ?_
  refine Runs.seq ?_
  refine Runs.eqnil rfl rfl rfl (fun h1 => ?_) ?_
  · skip
    refine Runs.condT rfl ?_
    refine Runs.has [(0, .d (.list (encs _))), (2, .nil0)] ⟨rfl, rfl, trivial⟩ ?_
    refine Runs.rseq ?_
    refine RO.opv (v' := .nil0) (opv_assign rfl) rfl ?_
    refine RO.nil ?_
    have hnil := encs_nil h1
    subst hnil
    refine Runs.nz 2 rfl ?_
    refine Runs.ret ?_
    refine thenQ_ret ?_
    refine EndQ.tmp (.inr rfl) rfl rfl 0 (by exact Nat.le_refl _) (by exact Nat.zero_le _) trivial ⟨?_, rfl⟩
    rfl
  · skip
    refine Runs.condF rfl ?_
    refine Runs.skip ?_
    refine thenQ_normal ?_
    refine Runs.has [(0, .d (.list (encs _))), (2, .nil0)] ⟨rfl, rfl, trivial⟩ ?_
    refine Runs.rseq ?_
    refine RO.opv (v' := .nil0) (opv_buildSlice0 rfl) rfl ?_
    refine RO.opv (v' := .d (.list (encs _))) (opv_move rfl) rfl ?_
    refine RO.opn (v' := .own 0 _) (O' := [_]) (opv_append_terms0 rfl rfl (by simpa using hl)) rfl rfl ?_
    refine RO.opv (v' := .own 0 _) (opv_assign rfl) rfl ?_
    refine RO.nil ?_
    refine Runs.shut 2 rfl rfl ?_
    refine Runs.ret ?_
    refine EndQ.tmp (.inr rfl) rfl rfl 0 (by exact Nat.le_refl _) (by exact Nat.zero_le _) trivial ⟨?_, rfl⟩
    rfl
theorem make_fn (s : ByteArray) (ks : List Term) (hl : ks.length ≤ 2 ^ 30) : Fn Try.prog 26 [.d (.str s), .d (.list (encs ks))] [] (.d (enc (.node 3 0 s ks))) [] := by
  refine Does.run Try.func26 rfl Try.ntmps26 rfl fun K hK => ?_
  refine Runs.rseq ?_
  refine RO.opn (v' := .ref 0 0) (O' := [_]) (opv_alloc) rfl rfl ?_
  refine RO.nil ?_
  refine Runs.rseq ?_
  refine RO.opv (v' := .d (.str _)) (opv_move rfl) rfl ?_
  refine RO.opv (v' := .d (.list (encs _))) (opv_move rfl) rfl ?_
  refine RO.opv (v' := .d (.list (encs _))) (opv_callF (clone_fn ks hl) rfl rfl rfl trivial) rfl ?_
  refine RO.opv (v' := .d (enc _)) (opv_build_term rfl rfl) rfl ?_
  refine RO.op0n (O' := [_]) (opv_store_term rfl rfl rfl (Nat.le_of_ble_eq_true rfl)) rfl ?_
  refine RO.nil ?_
  refine Runs.ret ?_
  refine EndQ.cell_term (.inr rfl) rfl rfl rfl rfl 0 (by exact Nat.le_refl _) (by exact Nat.zero_le _) ⟨?_, rfl⟩
  rfl
theorem let_fn (n : Int) : Fn Try.prog 24 [.d (.int .i64 n)] [] (.d (enc (.node 1 n ⟨#[]⟩ []))) [] := by
  refine Does.run Try.func24 rfl Try.ntmps24 rfl fun K hK => ?_
  refine Runs.rseq ?_
  refine RO.opn (v' := .ref 0 0) (O' := [_]) (opv_alloc) rfl rfl ?_
  refine RO.nil ?_
  refine Runs.rseq ?_
  refine RO.opv (v' := .d (.int _ _)) (opv_move rfl) rfl ?_
  refine RO.opv (v' := .d (enc _)) (opv_build_term (ks := []) rfl rfl) rfl ?_
  refine RO.op0n (O' := [_]) (opv_store_term rfl rfl rfl (Nat.le_of_ble_eq_true rfl)) rfl ?_
  refine RO.nil ?_
  refine Runs.ret ?_
  refine EndQ.cell_term (.inr rfl) rfl rfl rfl rfl 0 (by exact Nat.le_refl _) (by exact Nat.zero_le _) ⟨?_, rfl⟩
  rfl
theorem num_fn (n : Int) : Fn Try.prog 25 [.d (.int .i64 n)] [] (.d (enc (.node 2 n ⟨#[]⟩ []))) [] := by
  refine Does.run Try.func25 rfl Try.ntmps25 rfl fun K hK => ?_
  refine Runs.rseq ?_
  refine RO.opn (v' := .ref 0 0) (O' := [_]) (opv_alloc) rfl rfl ?_
  refine RO.nil ?_
  refine Runs.rseq ?_
  refine RO.opv (v' := .d (.int _ _)) (opv_move rfl) rfl ?_
  refine RO.opv (v' := .d (enc _)) (opv_build_term (ks := []) rfl rfl) rfl ?_
  refine RO.op0n (O' := [_]) (opv_store_term rfl rfl rfl (Nat.le_of_ble_eq_true rfl)) rfl ?_
  refine RO.nil ?_
  refine Runs.ret ?_
  refine EndQ.cell_term (.inr rfl) rfl rfl rfl rfl 0 (by exact Nat.le_refl _) (by exact Nat.zero_le _) ⟨?_, rfl⟩
  rfl
theorem atom_fn (s : ByteArray) : Fn Try.prog 29 [.d (.str s)] [] (.d (enc (.node 3 0 s []))) [] := by
  refine Does.run Try.func29 rfl Try.ntmps29 rfl fun K hK => ?_
  refine Runs.rseq ?_
  refine RO.opn (v' := .ref 0 0) (O' := [_]) (opv_alloc) rfl rfl ?_
  refine RO.nil ?_
  refine Runs.rseq ?_
  refine RO.opv (v' := .d (.str _)) (opv_move rfl) rfl ?_
  refine RO.opv (v' := .d (enc _)) (opv_callZ (make_fn s [] (Nat.zero_le _)) rfl rfl rfl trivial) rfl ?_
  refine RO.op0n (O' := [_]) (opv_store_term rfl rfl rfl (Nat.le_of_ble_eq_true rfl)) rfl ?_
  refine RO.nil ?_
  refine Runs.ret ?_
  refine EndQ.cell_term (.inr rfl) rfl rfl rfl rfl 0 (by exact Nat.le_refl _) (by exact Nat.zero_le _) ⟨?_, rfl⟩
  rfl
theorem alone_fn (t : Term) (lv : Int) (hb : t.bulk ≤ 2 ^ 30) : Fn Try.prog 39 [.d (enc t), .d (.int .i64 lv)] [] (.d (.bool (alone lv t))) [] := by
  have hU := t.bulk_kids
  refine Does.run Try.func39 rfl Try.ntmps39 rfl fun K hK => ?_
  refine Runs.rseq ?_
  refine RO.opn (v' := .ref 0 0) (O' := [_]) (opv_box_term rfl) rfl rfl ?_
  refine RO.opv (v' := .d (.bool false)) (opv_assign rfl) rfl ?_
  refine RO.nil ?_
  refine Runs.has [(1, .d (.int _ _)), (2, .ref 0 0), (4, .d (.bool false))] ⟨rfl, rfl, rfl, trivial⟩ ?_
  refine Runs.seq ?_
  refine Runs.rseq ?_
  refine RO.opv (v' := .ref 0 0) (opv_field_ref rfl rfl) rfl ?_
  refine RO.opv (v' := .d (.int _ _)) (opv_load_ref rfl rfl rfl) rfl ?_
  refine RO.nil ?_
  refine Runs.block ?_
  refine Runs.has [(1, .d (.int _ _)), (2, .ref 0 0), (4, .d (.bool false)), (6, .d (.int _ _))] ⟨rfl, rfl, rfl, rfl, trivial⟩ ?_
  refine Runs.rseq ?_
  refine RO.opv (v' := .d (.bool _)) (opv_bin rfl rfl rfl) rfl ?_
  refine RO.opc (opv_assign rfl) (fun h1 => ?_) (fun h1 => ?_)
  · skip
    refine RO.nil ?_
    refine Runs.condT rfl ?_
    refine Runs.has [(2, .ref 0 0), (4, .d (.bool false))] ⟨rfl, rfl, trivial⟩ ?_
    refine Runs.rseq ?_
    refine RO.opv (v' := .ref 0 1) (opv_field_ref rfl rfl) rfl ?_
    refine RO.opv (v' := .d (.int _ _)) (opv_load_ref rfl rfl rfl) rfl ?_
    refine RO.opv (v' := .d (.bool _)) (opv_bin rfl rfl rfl) rfl ?_
    refine RO.opc (opv_move rfl) (fun h2 => ?_) (fun h2 => ?_)
    · skip
      refine RO.opgv (v' := .ref 0 1) rfl (opv_field_ref rfl rfl) rfl ?_
      refine RO.opgv (v' := .d (.int _ _)) rfl (opv_load_ref rfl rfl rfl) rfl ?_
      refine RO.opgv (v' := .d (.bool _)) rfl (opv_bin rfl rfl rfl) rfl ?_
      refine RO.opv (v' := .d (.bool _)) (opv_pick rfl rfl) rfl ?_
      refine RO.opc (opv_move rfl) (fun h3 => ?_) (fun h3 => ?_)
      · skip
        refine RO.opgv (v' := .ref 0 2) rfl (opv_field_ref rfl rfl) rfl ?_
        refine RO.opgv (v' := .d (.str _)) rfl (opv_load_ref rfl rfl rfl) rfl ?_
        refine RO.opgv (v' := .d (.bool _)) rfl (opv_bin rfl rfl rfl) rfl ?_
        refine RO.opv (v' := .d (.bool _)) (opv_pick rfl rfl) rfl ?_
        refine RO.opc (opv_move rfl) (fun h4 => ?_) (fun h4 => ?_)
        · skip
          refine RO.opgv (v' := .ref 0 3) rfl (opv_field_ref rfl rfl) rfl ?_
          refine RO.opgv (v' := .d (.list (encs _))) rfl (opv_load_ref rfl rfl rfl) rfl ?_
          refine RO.opgv (v' := .d (.int _ _)) rfl (opv_len_terms rfl) rfl ?_
          refine RO.opgv (v' := .d (.bool _)) rfl (opv_bin rfl rfl rfl) rfl ?_
          refine RO.opv (v' := .d (.bool _)) (opv_pick rfl rfl) rfl ?_
          refine RO.opv (v' := .d (.bool _)) (opv_assign rfl) rfl ?_
          refine RO.nil ?_
          refine Runs.ret ?_
          refine blockQ_ret ?_
          refine thenQ_ret ?_
          refine EndQ.tmp (.inr rfl) rfl rfl 0 (by exact Nat.le_refl _) (by exact Nat.zero_le _) trivial ⟨?_, rfl⟩
          refine bool_eq ?_
          first
            | (simp only [alone, *, cond_true, cond_false, Bool.true_and, Bool.false_and]; done)
            | (simp only [alone, *, cond_true, cond_false, Bool.true_and, Bool.false_and]; rw [List.getElem?_eq_getElem (by omega)]; rfl)
        · skip
          refine RO.off rfl ?_
          refine RO.off rfl ?_
          refine RO.off rfl ?_
          refine RO.off rfl ?_
          refine RO.opv (v' := .d (.bool false)) (opv_pick rfl rfl) rfl ?_
          refine RO.opv (v' := .d (.bool false)) (opv_assign rfl) rfl ?_
          refine RO.nil ?_
          refine Runs.ret ?_
          refine blockQ_ret ?_
          refine thenQ_ret ?_
          refine EndQ.tmp (.inr rfl) rfl rfl 0 (by exact Nat.le_refl _) (by exact Nat.zero_le _) trivial ⟨?_, rfl⟩
          refine bool_eq ?_
          first
            | (simp only [alone, *, cond_true, cond_false, Bool.true_and, Bool.false_and]; done)
            | (simp only [alone, *, cond_true, cond_false, Bool.true_and, Bool.false_and]; rw [List.getElem?_eq_getElem (by omega)]; rfl)
      · skip
        refine RO.off rfl ?_
        refine RO.off rfl ?_
        refine RO.off rfl ?_
        refine RO.opv (v' := .d (.bool false)) (opv_pick rfl rfl) rfl ?_
        refine RO.opv (v' := .d (.bool false)) (opv_move rfl) rfl ?_
        refine RO.off rfl ?_
        refine RO.off rfl ?_
        refine RO.off rfl ?_
        refine RO.off rfl ?_
        refine RO.opv (v' := .d (.bool false)) (opv_pick rfl rfl) rfl ?_
        refine RO.opv (v' := .d (.bool false)) (opv_assign rfl) rfl ?_
        refine RO.nil ?_
        refine Runs.ret ?_
        refine blockQ_ret ?_
        refine thenQ_ret ?_
        refine EndQ.tmp (.inr rfl) rfl rfl 0 (by exact Nat.le_refl _) (by exact Nat.zero_le _) trivial ⟨?_, rfl⟩
        refine bool_eq ?_
        first
          | (simp only [alone, *, cond_true, cond_false, Bool.true_and, Bool.false_and]; done)
          | (simp only [alone, *, cond_true, cond_false, Bool.true_and, Bool.false_and]; rw [List.getElem?_eq_getElem (by omega)]; rfl)
    · skip
      refine RO.off rfl ?_
      refine RO.off rfl ?_
      refine RO.off rfl ?_
      refine RO.opv (v' := .d (.bool false)) (opv_pick rfl rfl) rfl ?_
      refine RO.opv (v' := .d (.bool false)) (opv_move rfl) rfl ?_
      refine RO.off rfl ?_
      refine RO.off rfl ?_
      refine RO.off rfl ?_
      refine RO.opv (v' := .d (.bool false)) (opv_pick rfl rfl) rfl ?_
      refine RO.opv (v' := .d (.bool false)) (opv_move rfl) rfl ?_
      refine RO.off rfl ?_
      refine RO.off rfl ?_
      refine RO.off rfl ?_
      refine RO.off rfl ?_
      refine RO.opv (v' := .d (.bool false)) (opv_pick rfl rfl) rfl ?_
      refine RO.opv (v' := .d (.bool false)) (opv_assign rfl) rfl ?_
      refine RO.nil ?_
      refine Runs.ret ?_
      refine blockQ_ret ?_
      refine thenQ_ret ?_
      refine EndQ.tmp (.inr rfl) rfl rfl 0 (by exact Nat.le_refl _) (by exact Nat.zero_le _) trivial ⟨?_, rfl⟩
      refine bool_eq ?_
      first
        | (simp only [alone, *, cond_true, cond_false, Bool.true_and, Bool.false_and]; done)
        | (simp only [alone, *, cond_true, cond_false, Bool.true_and, Bool.false_and]; rw [List.getElem?_eq_getElem (by omega)]; rfl)
  · skip
    refine RO.nil ?_
    refine Runs.condF rfl ?_
    refine Runs.has [(1, .d (.int _ _)), (2, .ref 0 0), (4, .d (.bool false)), (6, .d (.int _ _))] ⟨rfl, rfl, rfl, rfl, trivial⟩ ?_
    refine Runs.rseq ?_
    refine RO.opv (v' := .d (.bool _)) (opv_bin rfl rfl rfl) rfl ?_
    refine RO.opc (opv_assign rfl) (fun h5 => ?_) (fun h5 => ?_)
    · skip
      refine RO.nil ?_
      refine Runs.condT rfl ?_
      refine Runs.has [(2, .ref 0 0), (4, .d (.bool false))] ⟨rfl, rfl, trivial⟩ ?_
      refine Runs.rseq ?_
      refine RO.opv (v' := .ref 0 2) (opv_field_ref rfl rfl) rfl ?_
      refine RO.opv (v' := .d (.str _)) (opv_load_ref rfl rfl rfl) rfl ?_
      refine RO.opv (v' := .d (.bool _)) (opv_bin rfl rfl rfl) rfl ?_
      refine RO.opc (opv_move rfl) (fun h6 => ?_) (fun h6 => ?_)
      · skip
        refine RO.opgv (v' := .ref 0 3) rfl (opv_field_ref rfl rfl) rfl ?_
        refine RO.opgv (v' := .d (.list (encs _))) rfl (opv_load_ref rfl rfl rfl) rfl ?_
        refine RO.opgv (v' := .d (.int _ _)) rfl (opv_len_terms rfl) rfl ?_
        refine RO.opgv (v' := .d (.bool _)) rfl (opv_bin rfl rfl rfl) rfl ?_
        refine RO.opv (v' := .d (.bool _)) (opv_pick rfl rfl) rfl ?_
        refine RO.opv (v' := .d (.bool _)) (opv_assign rfl) rfl ?_
        refine RO.nil ?_
        refine Runs.ret ?_
        refine blockQ_ret ?_
        refine thenQ_ret ?_
        refine EndQ.tmp (.inr rfl) rfl rfl 0 (by exact Nat.le_refl _) (by exact Nat.zero_le _) trivial ⟨?_, rfl⟩
        refine bool_eq ?_
        first
          | (simp only [alone, *, cond_true, cond_false, Bool.true_and, Bool.false_and]; done)
          | (simp only [alone, *, cond_true, cond_false, Bool.true_and, Bool.false_and]; rw [List.getElem?_eq_getElem (by omega)]; rfl)
      · skip
        refine RO.off rfl ?_
        refine RO.off rfl ?_
        refine RO.off rfl ?_
        refine RO.off rfl ?_
        refine RO.opv (v' := .d (.bool false)) (opv_pick rfl rfl) rfl ?_
        refine RO.opv (v' := .d (.bool false)) (opv_assign rfl) rfl ?_
        refine RO.nil ?_
        refine Runs.ret ?_
        refine blockQ_ret ?_
        refine thenQ_ret ?_
        refine EndQ.tmp (.inr rfl) rfl rfl 0 (by exact Nat.le_refl _) (by exact Nat.zero_le _) trivial ⟨?_, rfl⟩
        refine bool_eq ?_
        first
          | (simp only [alone, *, cond_true, cond_false, Bool.true_and, Bool.false_and]; done)
          | (simp only [alone, *, cond_true, cond_false, Bool.true_and, Bool.false_and]; rw [List.getElem?_eq_getElem (by omega)]; rfl)
    · skip
      refine RO.nil ?_
      refine Runs.condF rfl ?_
      refine Runs.has [(1, .d (.int _ _)), (2, .ref 0 0), (4, .d (.bool false)), (6, .d (.int _ _))] ⟨rfl, rfl, rfl, rfl, trivial⟩ ?_
      refine Runs.rseq ?_
      refine RO.opv (v' := .d (.bool _)) (opv_bin rfl rfl rfl) rfl ?_
      refine RO.opc (opv_assign rfl) (fun h7 => ?_) (fun h7 => ?_)
      · skip
        refine RO.nil ?_
        refine Runs.condT rfl ?_
        refine Runs.has [(2, .ref 0 0), (4, .d (.bool false))] ⟨rfl, rfl, trivial⟩ ?_
        refine Runs.rseq ?_
        refine RO.opv (v' := .ref 0 1) (opv_field_ref rfl rfl) rfl ?_
        refine RO.opv (v' := .d (.int _ _)) (opv_load_ref rfl rfl rfl) rfl ?_
        refine RO.opv (v' := .d (.bool _)) (opv_bin rfl rfl rfl) rfl ?_
        refine RO.opc (opv_move rfl) (fun h8 => ?_) (fun h8 => ?_)
        · skip
          refine RO.opgv (v' := .ref 0 2) rfl (opv_field_ref rfl rfl) rfl ?_
          refine RO.opgv (v' := .d (.str _)) rfl (opv_load_ref rfl rfl rfl) rfl ?_
          refine RO.opgv (v' := .d (.int _ _)) rfl (opv_len rfl rfl rfl) rfl ?_
          refine RO.opgv (v' := .d (.bool _)) rfl (opv_bin rfl rfl rfl) rfl ?_
          refine RO.opv (v' := .d (.bool _)) (opv_pick rfl rfl) rfl ?_
          refine RO.opc (opv_move rfl) (fun h9 => ?_) (fun h9 => ?_)
          · skip
            refine RO.opgv (v' := .ref 0 3) rfl (opv_field_ref rfl rfl) rfl ?_
            refine RO.opgv (v' := .d (.list (encs _))) rfl (opv_load_ref rfl rfl rfl) rfl ?_
            refine RO.opgv (v' := .d (.int _ _)) rfl (opv_len_terms rfl) rfl ?_
            refine RO.opgv (v' := .d (.bool _)) rfl (opv_bin rfl rfl rfl) rfl ?_
            refine RO.opv (v' := .d (.bool _)) (opv_pick rfl rfl) rfl ?_
            refine RO.opv (v' := .d (.bool _)) (opv_assign rfl) rfl ?_
            refine RO.nil ?_
            refine Runs.ret ?_
            refine blockQ_ret ?_
            refine thenQ_ret ?_
            refine EndQ.tmp (.inr rfl) rfl rfl 0 (by exact Nat.le_refl _) (by exact Nat.zero_le _) trivial ⟨?_, rfl⟩
            refine bool_eq ?_
            first
              | (simp only [alone, *, cond_true, cond_false, Bool.true_and, Bool.false_and]; done)
              | (simp only [alone, *, cond_true, cond_false, Bool.true_and, Bool.false_and]; rw [List.getElem?_eq_getElem (by omega)]; rfl)
          · skip
            refine RO.off rfl ?_
            refine RO.off rfl ?_
            refine RO.off rfl ?_
            refine RO.off rfl ?_
            refine RO.opv (v' := .d (.bool false)) (opv_pick rfl rfl) rfl ?_
            refine RO.opv (v' := .d (.bool false)) (opv_assign rfl) rfl ?_
            refine RO.nil ?_
            refine Runs.ret ?_
            refine blockQ_ret ?_
            refine thenQ_ret ?_
            refine EndQ.tmp (.inr rfl) rfl rfl 0 (by exact Nat.le_refl _) (by exact Nat.zero_le _) trivial ⟨?_, rfl⟩
            refine bool_eq ?_
            first
              | (simp only [alone, *, cond_true, cond_false, Bool.true_and, Bool.false_and]; done)
              | (simp only [alone, *, cond_true, cond_false, Bool.true_and, Bool.false_and]; rw [List.getElem?_eq_getElem (by omega)]; rfl)
        · skip
          refine RO.off rfl ?_
          refine RO.off rfl ?_
          refine RO.off rfl ?_
          refine RO.off rfl ?_
          refine RO.opv (v' := .d (.bool false)) (opv_pick rfl rfl) rfl ?_
          refine RO.opv (v' := .d (.bool false)) (opv_move rfl) rfl ?_
          refine RO.off rfl ?_
          refine RO.off rfl ?_
          refine RO.off rfl ?_
          refine RO.off rfl ?_
          refine RO.opv (v' := .d (.bool false)) (opv_pick rfl rfl) rfl ?_
          refine RO.opv (v' := .d (.bool false)) (opv_assign rfl) rfl ?_
          refine RO.nil ?_
          refine Runs.ret ?_
          refine blockQ_ret ?_
          refine thenQ_ret ?_
          refine EndQ.tmp (.inr rfl) rfl rfl 0 (by exact Nat.le_refl _) (by exact Nat.zero_le _) trivial ⟨?_, rfl⟩
          refine bool_eq ?_
          first
            | (simp only [alone, *, cond_true, cond_false, Bool.true_and, Bool.false_and]; done)
            | (simp only [alone, *, cond_true, cond_false, Bool.true_and, Bool.false_and]; rw [List.getElem?_eq_getElem (by omega)]; rfl)
      · skip
        refine RO.nil ?_
        refine Runs.condF rfl ?_
        refine Runs.has [(1, .d (.int _ _)), (2, .ref 0 0), (4, .d (.bool false)), (6, .d (.int _ _))] ⟨rfl, rfl, rfl, rfl, trivial⟩ ?_
        refine Runs.rseq ?_
        refine RO.opv (v' := .d (.bool _)) (opv_bin rfl rfl rfl) rfl ?_
        refine RO.opc (opv_assign rfl) (fun h10 => ?_) (fun h10 => ?_)
        · skip
          refine RO.nil ?_
          refine Runs.condT rfl ?_
          refine Runs.has [(1, .d (.int _ _)), (2, .ref 0 0), (4, .d (.bool false))] ⟨rfl, rfl, rfl, trivial⟩ ?_
          refine Runs.rseq ?_
          refine RO.opv (v' := .ref 0 2) (opv_field_ref rfl rfl) rfl ?_
          refine RO.opv (v' := .d (.str _)) (opv_load_ref rfl rfl rfl) rfl ?_
          refine RO.opv (v' := .d (.bool _)) (opv_bin rfl rfl rfl) rfl ?_
          refine RO.opc (opv_move rfl) (fun h11 => ?_) (fun h11 => ?_)
          · skip
            refine RO.opgv (v' := .ref 0 1) rfl (opv_field_ref rfl rfl) rfl ?_
            refine RO.opgv (v' := .d (.int _ _)) rfl (opv_load_ref rfl rfl rfl) rfl ?_
            refine RO.opgv (v' := .d (.bool _)) rfl (opv_bin rfl rfl rfl) rfl ?_
            refine RO.opv (v' := .d (.bool _)) (opv_pick rfl rfl) rfl ?_
            refine RO.opc (opv_move rfl) (fun h12 => ?_) (fun h12 => ?_)
            · skip
              refine RO.opgv (v' := .ref 0 1) rfl (opv_field_ref rfl rfl) rfl ?_
              refine RO.opgv (v' := .d (.int _ _)) rfl (opv_load_ref rfl rfl rfl) rfl ?_
              refine RO.opgv (v' := .d (.int _ _)) rfl (opv_move rfl) rfl ?_
              refine RO.opgv (v' := .d (.bool _)) rfl (opv_bin rfl rfl rfl) rfl ?_
              refine RO.opv (v' := .d (.bool _)) (opv_pick rfl rfl) rfl ?_
              refine RO.opc (opv_move rfl) (fun h13 => ?_) (fun h13 => ?_)
              · skip
                refine RO.opgv (v' := .ref 0 3) rfl (opv_field_ref rfl rfl) rfl ?_
                refine RO.opgv (v' := .d (.list (encs _))) rfl (opv_load_ref rfl rfl rfl) rfl ?_
                refine RO.opgv (v' := .d (.int _ _)) rfl (opv_len_terms rfl) rfl ?_
                refine RO.opgv (v' := .d (.bool _)) rfl (opv_bin rfl rfl rfl) rfl ?_
                refine RO.opv (v' := .d (.bool _)) (opv_pick rfl rfl) rfl ?_
                refine RO.opc (opv_move rfl) (fun h14 => ?_) (fun h14 => ?_)
                · skip
                  have hk : t.kids.length = 1 := by have := h14; simp at this; omega
                  refine RO.opgv (v' := .ref 0 3) rfl (opv_field_ref rfl rfl) rfl ?_
                  refine RO.opgv (v' := .d (.list (encs _))) rfl (opv_load_ref rfl rfl rfl) rfl ?_
                  refine RO.opgv (v' := .d (.ptr _)) rfl (opv_index_terms (i := 0) rfl rfl (by omega)) rfl ?_
                  refine RO.opgv (v' := .d (enc _)) rfl (opv_load_pterm rfl) rfl ?_
                  refine RO.opgv (v' := .d (.list (ints _))) rfl (opv_callF (vars_fn t.kids[0] (by have := bulks_mem (List.getElem_mem (l := t.kids) (n := 0) (by omega)); omega)) rfl rfl rfl trivial) rfl ?_
                  refine RO.opgv (v' := .d (.int _ _)) rfl (opv_len_ints rfl) rfl ?_
                  refine RO.opgv (v' := .d (.bool _)) rfl (opv_bin rfl rfl rfl) rfl ?_
                  refine RO.opv (v' := .d (.bool _)) (opv_pick rfl rfl) rfl ?_
                  refine RO.opv (v' := .d (.bool _)) (opv_assign rfl) rfl ?_
                  refine RO.nil ?_
                  refine Runs.ret ?_
                  refine blockQ_ret ?_
                  refine thenQ_ret ?_
                  refine EndQ.tmp (.inr rfl) rfl rfl 0 (by exact Nat.le_refl _) (by exact Nat.zero_le _) trivial ⟨?_, rfl⟩
                  refine bool_eq ?_
                  first
                    | (simp only [alone, *, cond_true, cond_false, Bool.true_and, Bool.false_and]; done)
                    | (simp only [alone, *, cond_true, cond_false, Bool.true_and, Bool.false_and]; rw [List.getElem?_eq_getElem (by omega)]; rfl)
                · skip
                  skip
                  refine RO.off rfl ?_
                  refine RO.off rfl ?_
                  refine RO.off rfl ?_
                  refine RO.off rfl ?_
                  refine RO.off rfl ?_
                  refine RO.off rfl ?_
                  refine RO.off rfl ?_
                  refine RO.opv (v' := .d (.bool false)) (opv_pick rfl rfl) rfl ?_
                  refine RO.opv (v' := .d (.bool false)) (opv_assign rfl) rfl ?_
                  refine RO.nil ?_
                  refine Runs.ret ?_
                  refine blockQ_ret ?_
                  refine thenQ_ret ?_
                  refine EndQ.tmp (.inr rfl) rfl rfl 0 (by exact Nat.le_refl _) (by exact Nat.zero_le _) trivial ⟨?_, rfl⟩
                  refine bool_eq ?_
                  first
                    | (simp only [alone, *, cond_true, cond_false, Bool.true_and, Bool.false_and]; done)
                    | (simp only [alone, *, cond_true, cond_false, Bool.true_and, Bool.false_and]; rw [List.getElem?_eq_getElem (by omega)]; rfl)
              · skip
                refine RO.off rfl ?_
                refine RO.off rfl ?_
                refine RO.off rfl ?_
                refine RO.off rfl ?_
                refine RO.opv (v' := .d (.bool false)) (opv_pick rfl rfl) rfl ?_
                refine RO.opv (v' := .d (.bool false)) (opv_move rfl) rfl ?_
                refine RO.off rfl ?_
                refine RO.off rfl ?_
                refine RO.off rfl ?_
                refine RO.off rfl ?_
                refine RO.off rfl ?_
                refine RO.off rfl ?_
                refine RO.off rfl ?_
                refine RO.opv (v' := .d (.bool false)) (opv_pick rfl rfl) rfl ?_
                refine RO.opv (v' := .d (.bool false)) (opv_assign rfl) rfl ?_
                refine RO.nil ?_
                refine Runs.ret ?_
                refine blockQ_ret ?_
                refine thenQ_ret ?_
                refine EndQ.tmp (.inr rfl) rfl rfl 0 (by exact Nat.le_refl _) (by exact Nat.zero_le _) trivial ⟨?_, rfl⟩
                refine bool_eq ?_
                first
                  | (simp only [alone, *, cond_true, cond_false, Bool.true_and, Bool.false_and]; done)
                  | (simp only [alone, *, cond_true, cond_false, Bool.true_and, Bool.false_and]; rw [List.getElem?_eq_getElem (by omega)]; rfl)
            · skip
              refine RO.off rfl ?_
              refine RO.off rfl ?_
              refine RO.off rfl ?_
              refine RO.off rfl ?_
              refine RO.opv (v' := .d (.bool false)) (opv_pick rfl rfl) rfl ?_
              refine RO.opv (v' := .d (.bool false)) (opv_move rfl) rfl ?_
              refine RO.off rfl ?_
              refine RO.off rfl ?_
              refine RO.off rfl ?_
              refine RO.off rfl ?_
              refine RO.opv (v' := .d (.bool false)) (opv_pick rfl rfl) rfl ?_
              refine RO.opv (v' := .d (.bool false)) (opv_move rfl) rfl ?_
              refine RO.off rfl ?_
              refine RO.off rfl ?_
              refine RO.off rfl ?_
              refine RO.off rfl ?_
              refine RO.off rfl ?_
              refine RO.off rfl ?_
              refine RO.off rfl ?_
              refine RO.opv (v' := .d (.bool false)) (opv_pick rfl rfl) rfl ?_
              refine RO.opv (v' := .d (.bool false)) (opv_assign rfl) rfl ?_
              refine RO.nil ?_
              refine Runs.ret ?_
              refine blockQ_ret ?_
              refine thenQ_ret ?_
              refine EndQ.tmp (.inr rfl) rfl rfl 0 (by exact Nat.le_refl _) (by exact Nat.zero_le _) trivial ⟨?_, rfl⟩
              refine bool_eq ?_
              first
                | (simp only [alone, *, cond_true, cond_false, Bool.true_and, Bool.false_and]; done)
                | (simp only [alone, *, cond_true, cond_false, Bool.true_and, Bool.false_and]; rw [List.getElem?_eq_getElem (by omega)]; rfl)
          · skip
            refine RO.off rfl ?_
            refine RO.off rfl ?_
            refine RO.off rfl ?_
            refine RO.opv (v' := .d (.bool false)) (opv_pick rfl rfl) rfl ?_
            refine RO.opv (v' := .d (.bool false)) (opv_move rfl) rfl ?_
            refine RO.off rfl ?_
            refine RO.off rfl ?_
            refine RO.off rfl ?_
            refine RO.off rfl ?_
            refine RO.opv (v' := .d (.bool false)) (opv_pick rfl rfl) rfl ?_
            refine RO.opv (v' := .d (.bool false)) (opv_move rfl) rfl ?_
            refine RO.off rfl ?_
            refine RO.off rfl ?_
            refine RO.off rfl ?_
            refine RO.off rfl ?_
            refine RO.opv (v' := .d (.bool false)) (opv_pick rfl rfl) rfl ?_
            refine RO.opv (v' := .d (.bool false)) (opv_move rfl) rfl ?_
            refine RO.off rfl ?_
            refine RO.off rfl ?_
            refine RO.off rfl ?_
            refine RO.off rfl ?_
            refine RO.off rfl ?_
            refine RO.off rfl ?_
            refine RO.off rfl ?_
            refine RO.opv (v' := .d (.bool false)) (opv_pick rfl rfl) rfl ?_
            refine RO.opv (v' := .d (.bool false)) (opv_assign rfl) rfl ?_
            refine RO.nil ?_
            refine Runs.ret ?_
            refine blockQ_ret ?_
            refine thenQ_ret ?_
            refine EndQ.tmp (.inr rfl) rfl rfl 0 (by exact Nat.le_refl _) (by exact Nat.zero_le _) trivial ⟨?_, rfl⟩
            refine bool_eq ?_
            first
              | (simp only [alone, *, cond_true, cond_false, Bool.true_and, Bool.false_and]; done)
              | (simp only [alone, *, cond_true, cond_false, Bool.true_and, Bool.false_and]; rw [List.getElem?_eq_getElem (by omega)]; rfl)
        · skip
          refine RO.nil ?_
          refine Runs.condF rfl ?_
          refine Runs.skip ?_
          refine blockQ_normal ?_
          refine thenQ_normal ?_
          refine Runs.has [(4, .d (.bool false))] ⟨rfl, trivial⟩ ?_
          refine Runs.rseq ?_
          refine RO.opv (v' := .d (.bool false)) (opv_assign rfl) rfl ?_
          refine RO.nil ?_
          refine Runs.ret ?_
          refine EndQ.tmp (.inr rfl) rfl rfl 0 (by exact Nat.le_refl _) (by exact Nat.zero_le _) trivial ⟨?_, rfl⟩
          refine bool_eq ?_
          first
            | (simp only [alone, *, cond_true, cond_false, Bool.true_and, Bool.false_and]; done)
            | (simp only [alone, *, cond_true, cond_false, Bool.true_and, Bool.false_and]; rw [List.getElem?_eq_getElem (by omega)]; rfl)
theorem check_fn (t : Term) (lv : Int) (hb : t.bulk ≤ 2 ^ 30) : Fn Try.prog 16 [.d (enc t), .d (.int .i64 lv)] [] (.d (.int .i64 (t.check lv))) [] := by
  refine Does.run Try.func16 rfl Try.ntmps16 rfl fun K hK => ?_
  refine Runs.rseq ?_
  refine RO.opn (v' := .ref 0 0) (O' := [_]) (opv_box_term rfl) rfl rfl ?_
  refine RO.opn (v' := .ref 1 0) (O' := [_, _]) (opv_box rfl rfl) rfl rfl ?_
  refine RO.opn (v' := .ref 2 0) (O' := [_, _, _]) (opv_alloc) rfl rfl ?_
  refine RO.nil ?_
  refine Runs.has [(2, .ref 0 0), (3, .ref 1 0), (4, .ref 2 0)] ⟨rfl, rfl, rfl, trivial⟩ ?_
  refine Runs.seq ?_
  refine Runs.block ?_
  refine Runs.rseq ?_
  refine RO.opv (v' := .d (enc _)) (opv_load_term rfl rfl rfl) rfl ?_
  refine RO.opv (v' := .d (.int _ _)) (opv_callF (size_fn t hb) rfl rfl rfl trivial) rfl ?_
  refine RO.opv (v' := .d (.bool _)) (opv_bin rfl rfl rfl) rfl ?_
  refine RO.opc (opv_assign rfl) (fun h1 => ?_) (fun h1 => ?_)
  · try simp only [Z.a, Z.b, Z.c, Z.d, Z.e, Z.f, Z.g, Z.h, Z.i, Z.j, Z.k, Z.l, Z.m] at h1
    refine RO.nil ?_
    refine Runs.condT rfl ?_
    refine Runs.has [(2, .ref 0 0), (3, .ref 1 0), (4, .ref 2 0)] ⟨rfl, rfl, rfl, trivial⟩ ?_
    refine Runs.rseq ?_
    refine RO.op0n (O' := [_, _, _]) (opv_store_ref rfl rfl rfl rfl rfl (Nat.le_of_ble_eq_true rfl) rfl) rfl ?_
    refine RO.nil ?_
    refine Runs.ret ?_
    refine blockQ_ret ?_
    refine thenQ_ret ?_
    refine EndQ.cell (.inr rfl) rfl rfl rfl rfl 0 (by exact Nat.le_refl _) (by exact Nat.zero_le _) (by exact trivial) ⟨?_, rfl⟩
    refine int_eq ?_; unfold Term.check; rw [if_pos (by omega)]
  · try simp only [Z.a, Z.b, Z.c, Z.d, Z.e, Z.f, Z.g, Z.h, Z.i, Z.j, Z.k, Z.l, Z.m] at h1
    refine RO.nil ?_
    refine Runs.condF rfl ?_
    refine Runs.has [(2, .ref 0 0), (3, .ref 1 0), (4, .ref 2 0)] ⟨rfl, rfl, rfl, trivial⟩ ?_
    refine Runs.rseq ?_
    refine RO.opv (v' := .d (enc _)) (opv_load_term rfl rfl rfl) rfl ?_
    refine RO.opv (v' := .d (.int _ _)) (opv_callF (deep_fn t hb) rfl rfl rfl trivial) rfl ?_
    refine RO.opv (v' := .d (.bool _)) (opv_bin rfl rfl rfl) rfl ?_
    refine RO.opc (opv_assign rfl) (fun h2 => ?_) (fun h2 => ?_)
    · try simp only [Z.a, Z.b, Z.c, Z.d, Z.e, Z.f, Z.g, Z.h, Z.i, Z.j, Z.k, Z.l, Z.m] at h2
      refine RO.nil ?_
      refine Runs.condT rfl ?_
      refine Runs.has [(2, .ref 0 0), (3, .ref 1 0), (4, .ref 2 0)] ⟨rfl, rfl, rfl, trivial⟩ ?_
      refine Runs.rseq ?_
      refine RO.op0n (O' := [_, _, _]) (opv_store_ref rfl rfl rfl rfl rfl (Nat.le_of_ble_eq_true rfl) rfl) rfl ?_
      refine RO.nil ?_
      refine Runs.ret ?_
      refine blockQ_ret ?_
      refine thenQ_ret ?_
      refine EndQ.cell (.inr rfl) rfl rfl rfl rfl 0 (by exact Nat.le_refl _) (by exact Nat.zero_le _) (by exact trivial) ⟨?_, rfl⟩
      refine int_eq ?_; unfold Term.check; rw [if_neg (by omega), if_pos (by omega)]
    · try simp only [Z.a, Z.b, Z.c, Z.d, Z.e, Z.f, Z.g, Z.h, Z.i, Z.j, Z.k, Z.l, Z.m] at h2
      refine RO.nil ?_
      refine Runs.condF rfl ?_
      refine Runs.skip ?_
      refine blockQ_normal ?_
      refine thenQ_normal ?_
      refine Runs.has [(2, .ref 0 0), (3, .ref 1 0), (4, .ref 2 0)] ⟨rfl, rfl, rfl, trivial⟩ ?_
      refine Runs.seq ?_
      refine Runs.rseq ?_
      refine RO.opv (v' := .d (enc _)) (opv_load_term rfl rfl rfl) rfl ?_
      refine RO.opv (v' := .fn 52 _) (opv_callF (parts_fn t) rfl rfl rfl ⟨trivial, trivial⟩) rfl ?_
      refine RO.nil ?_
      refine Runs.block ?_
      refine Runs.has [(2, .ref 0 0), (3, .ref 1 0), (4, .ref 2 0), (15, .fn 52 [.d (.ptr (dcells t))])] ⟨rfl, rfl, rfl, rfl, trivial⟩ ?_
      rcases Bool.eq_false_or_eq_true (t.parts.all (alone lv)) with ha | ha
      · skip
        refine Runs.rangeFunc (v := .tup []) (O' := [(fun (_ : Bool) => .cells (cellsT t)) true, (fun (_ : Bool) => .cells [.d (.int .i64 lv)]) true, (fun (σ : Bool) => .cells [.d (.int .i64 (bif σ then 0 else 4))]) true]) (st := .ready) (j := none) rfl (tb_unk rfl) (parts1_fn (fun (_ : Bool) => .cells (cellsT t)) (fun (_ : Bool) => .cells [.d (.int .i64 lv)]) (fun (σ : Bool) => .cells [.d (.int .i64 (bif σ then 0 else 4))]) _ _ _ _ _ .ret (fun (_ : Bool) (p : Term) => (alone lv p, alone lv p)) (fun (σ : Bool) _ => σ = true) (2 ^ 30) ?_ (fun σ p n h h2 => h2) (Nat.le_refl _) t (true) 0 (hb) (rfl) ((true, true)) (by rw [walk_alone, ha])) rfl (by decide) ?_
        · intro σ p n hpB hpre
          have hσ : σ = true := hpre
          subst hσ
          rcases Bool.eq_false_or_eq_true (alone lv p) with hb' | hb'
          · skip
            simp only [hb']
            try dsimp only
            refine Yl.intro (TL := tb [(2, .ref 0 0), (3, .ref 1 0), (4, .ref 2 0), (15, .fn 52 [.d (.ptr (dcells t))])]) (NL := 21) (ps := #[16]) (xs := [.d (enc p)]) (Op := [(fun (_ : Bool) => .cells (cellsT t)) true, (fun (_ : Bool) => .cells [.d (.int .i64 lv)]) true, (fun (σ : Bool) => .cells [.d (.int .i64 (bif σ then 0 else 4))]) true]) (O1' := [.cells (cellsT t), .cells [.d (.int .i64 lv)], .cells [.d (.int .i64 0)]]) (j := none) (by decide) rfl (fun ro K hK => ?_) (tb_unk rfl)
            refine Runs.region ?_
            refine RO.opn (v' := .ref 4 0) (O' := [_, _, _, _, _]) (opv_alloc) rfl rfl ?_
            refine RO.op0n (O' := [_, _, _, _, _]) (opv_store_term rfl rfl rfl (Nat.le_of_ble_eq_true rfl)) rfl ?_
            refine RO.nil ?_
            refine ⟨rfl, rfl, ?_⟩
            refine Runs.block ?_
            refine Runs.rseq ?_
            refine RO.opv (v' := .d (enc _)) (opv_load_term rfl rfl rfl) rfl ?_
            refine RO.opv (v' := .d (.int _ _)) (opv_load_ref rfl rfl rfl) rfl ?_
            refine RO.opv (v' := .d (.bool _)) (opv_callF (alone_fn p lv hpB) rfl rfl rfl trivial) rfl ?_
            refine RO.opc (opv_not rfl rfl) (fun h3 => ?_) (fun h3 => ?_)
            · try simp only [Z.a, Z.b, Z.c, Z.d, Z.e, Z.f, Z.g, Z.h, Z.i, Z.j, Z.k, Z.l, Z.m] at h3
              rw [hb'] at h3; cases h3
            · try simp only [Z.a, Z.b, Z.c, Z.d, Z.e, Z.f, Z.g, Z.h, Z.i, Z.j, Z.k, Z.l, Z.m] at h3
              refine RO.nil ?_
              refine Runs.condF rfl ?_
              refine Runs.skip ?_
              refine blockQ_normal ?_
              exact ⟨rfl, rfl, rfl, rfl⟩
          · skip
            simp only [hb']
            try dsimp only
            refine Yl.intro (TL := tb [(2, .ref 0 0), (3, .ref 1 0), (4, .ref 2 0), (15, .fn 52 [.d (.ptr (dcells t))])]) (NL := 21) (ps := #[16]) (xs := [.d (enc p)]) (Op := [(fun (_ : Bool) => .cells (cellsT t)) true, (fun (_ : Bool) => .cells [.d (.int .i64 lv)]) true, (fun (σ : Bool) => .cells [.d (.int .i64 (bif σ then 0 else 4))]) true]) (O1' := [.cells (cellsT t), .cells [.d (.int .i64 lv)], .cells [.d (.int .i64 4)]]) (j := (some .ret)) (by decide) rfl (fun ro K hK => ?_) (tb_unk rfl)
            refine Runs.region ?_
            refine RO.opn (v' := .ref 4 0) (O' := [_, _, _, _, _]) (opv_alloc) rfl rfl ?_
            refine RO.op0n (O' := [_, _, _, _, _]) (opv_store_term rfl rfl rfl (Nat.le_of_ble_eq_true rfl)) rfl ?_
            refine RO.nil ?_
            refine ⟨rfl, rfl, ?_⟩
            refine Runs.block ?_
            refine Runs.rseq ?_
            refine RO.opv (v' := .d (enc _)) (opv_load_term rfl rfl rfl) rfl ?_
            refine RO.opv (v' := .d (.int _ _)) (opv_load_ref rfl rfl rfl) rfl ?_
            refine RO.opv (v' := .d (.bool _)) (opv_callF (alone_fn p lv hpB) rfl rfl rfl trivial) rfl ?_
            refine RO.opc (opv_not rfl rfl) (fun h4 => ?_) (fun h4 => ?_)
            · try simp only [Z.a, Z.b, Z.c, Z.d, Z.e, Z.f, Z.g, Z.h, Z.i, Z.j, Z.k, Z.l, Z.m] at h4
              refine RO.nil ?_
              refine Runs.condT rfl ?_
              refine Runs.rseq ?_
              refine RO.op0n (O' := [_, _, _, _, _]) (opv_store_ref rfl rfl rfl rfl rfl (Nat.le_of_ble_eq_true rfl) rfl) rfl ?_
              refine RO.nil ?_
              refine Runs.ret ?_
              refine blockQ_ret ?_
              exact ⟨rfl, rfl, rfl, rfl⟩
            · try simp only [Z.a, Z.b, Z.c, Z.d, Z.e, Z.f, Z.g, Z.h, Z.i, Z.j, Z.k, Z.l, Z.m] at h4
              rw [hb'] at h4; cases h4
        refine blockQ_normal ?_
        refine thenQ_normal ?_
        refine Runs.has [(4, .ref 2 0)] ⟨rfl, trivial⟩ ?_
        refine Runs.rseq ?_
        refine RO.op0n (O' := [_, _, _]) (opv_store_ref rfl rfl rfl rfl rfl (Nat.le_of_ble_eq_true rfl) rfl) rfl ?_
        refine RO.nil ?_
        refine Runs.ret ?_
        refine EndQ.cell (.inr rfl) rfl rfl rfl rfl 0 (by exact Nat.le_refl _) (by exact Nat.zero_le _) (by exact trivial) ⟨?_, rfl⟩
        refine int_eq ?_; unfold Term.check; rw [if_neg (by omega), if_neg (by omega), ha]; rfl
      · skip
        refine Runs.rangeFunc (v := .tup []) (O' := [(fun (_ : Bool) => .cells (cellsT t)) false, (fun (_ : Bool) => .cells [.d (.int .i64 lv)]) false, (fun (σ : Bool) => .cells [.d (.int .i64 (bif σ then 0 else 4))]) false]) (st := .done) (j := (some .ret)) rfl (tb_unk rfl) (parts1_fn (fun (_ : Bool) => .cells (cellsT t)) (fun (_ : Bool) => .cells [.d (.int .i64 lv)]) (fun (σ : Bool) => .cells [.d (.int .i64 (bif σ then 0 else 4))]) _ _ _ _ _ .ret (fun (_ : Bool) (p : Term) => (alone lv p, alone lv p)) (fun (σ : Bool) _ => σ = true) (2 ^ 30) ?_ (fun σ p n h h2 => h2) (Nat.le_refl _) t (true) 0 (hb) (rfl) ((false, false)) (by rw [walk_alone, ha])) rfl (by decide) ?_
        · intro σ p n hpB hpre
          have hσ : σ = true := hpre
          subst hσ
          rcases Bool.eq_false_or_eq_true (alone lv p) with hb' | hb'
          · skip
            simp only [hb']
            try dsimp only
            refine Yl.intro (TL := tb [(2, .ref 0 0), (3, .ref 1 0), (4, .ref 2 0), (15, .fn 52 [.d (.ptr (dcells t))])]) (NL := 21) (ps := #[16]) (xs := [.d (enc p)]) (Op := [(fun (_ : Bool) => .cells (cellsT t)) true, (fun (_ : Bool) => .cells [.d (.int .i64 lv)]) true, (fun (σ : Bool) => .cells [.d (.int .i64 (bif σ then 0 else 4))]) true]) (O1' := [.cells (cellsT t), .cells [.d (.int .i64 lv)], .cells [.d (.int .i64 0)]]) (j := none) (by decide) rfl (fun ro K hK => ?_) (tb_unk rfl)
            refine Runs.region ?_
            refine RO.opn (v' := .ref 4 0) (O' := [_, _, _, _, _]) (opv_alloc) rfl rfl ?_
            refine RO.op0n (O' := [_, _, _, _, _]) (opv_store_term rfl rfl rfl (Nat.le_of_ble_eq_true rfl)) rfl ?_
            refine RO.nil ?_
            refine ⟨rfl, rfl, ?_⟩
            refine Runs.block ?_
            refine Runs.rseq ?_
            refine RO.opv (v' := .d (enc _)) (opv_load_term rfl rfl rfl) rfl ?_
            refine RO.opv (v' := .d (.int _ _)) (opv_load_ref rfl rfl rfl) rfl ?_
            refine RO.opv (v' := .d (.bool _)) (opv_callF (alone_fn p lv hpB) rfl rfl rfl trivial) rfl ?_
            refine RO.opc (opv_not rfl rfl) (fun h5 => ?_) (fun h5 => ?_)
            · try simp only [Z.a, Z.b, Z.c, Z.d, Z.e, Z.f, Z.g, Z.h, Z.i, Z.j, Z.k, Z.l, Z.m] at h5
              rw [hb'] at h5; cases h5
            · try simp only [Z.a, Z.b, Z.c, Z.d, Z.e, Z.f, Z.g, Z.h, Z.i, Z.j, Z.k, Z.l, Z.m] at h5
              refine RO.nil ?_
              refine Runs.condF rfl ?_
              refine Runs.skip ?_
              refine blockQ_normal ?_
              exact ⟨rfl, rfl, rfl, rfl⟩
          · skip
            simp only [hb']
            try dsimp only
            refine Yl.intro (TL := tb [(2, .ref 0 0), (3, .ref 1 0), (4, .ref 2 0), (15, .fn 52 [.d (.ptr (dcells t))])]) (NL := 21) (ps := #[16]) (xs := [.d (enc p)]) (Op := [(fun (_ : Bool) => .cells (cellsT t)) true, (fun (_ : Bool) => .cells [.d (.int .i64 lv)]) true, (fun (σ : Bool) => .cells [.d (.int .i64 (bif σ then 0 else 4))]) true]) (O1' := [.cells (cellsT t), .cells [.d (.int .i64 lv)], .cells [.d (.int .i64 4)]]) (j := (some .ret)) (by decide) rfl (fun ro K hK => ?_) (tb_unk rfl)
            refine Runs.region ?_
            refine RO.opn (v' := .ref 4 0) (O' := [_, _, _, _, _]) (opv_alloc) rfl rfl ?_
            refine RO.op0n (O' := [_, _, _, _, _]) (opv_store_term rfl rfl rfl (Nat.le_of_ble_eq_true rfl)) rfl ?_
            refine RO.nil ?_
            refine ⟨rfl, rfl, ?_⟩
            refine Runs.block ?_
            refine Runs.rseq ?_
            refine RO.opv (v' := .d (enc _)) (opv_load_term rfl rfl rfl) rfl ?_
            refine RO.opv (v' := .d (.int _ _)) (opv_load_ref rfl rfl rfl) rfl ?_
            refine RO.opv (v' := .d (.bool _)) (opv_callF (alone_fn p lv hpB) rfl rfl rfl trivial) rfl ?_
            refine RO.opc (opv_not rfl rfl) (fun h6 => ?_) (fun h6 => ?_)
            · try simp only [Z.a, Z.b, Z.c, Z.d, Z.e, Z.f, Z.g, Z.h, Z.i, Z.j, Z.k, Z.l, Z.m] at h6
              refine RO.nil ?_
              refine Runs.condT rfl ?_
              refine Runs.rseq ?_
              refine RO.op0n (O' := [_, _, _, _, _]) (opv_store_ref rfl rfl rfl rfl rfl (Nat.le_of_ble_eq_true rfl) rfl) rfl ?_
              refine RO.nil ?_
              refine Runs.ret ?_
              refine blockQ_ret ?_
              exact ⟨rfl, rfl, rfl, rfl⟩
            · try simp only [Z.a, Z.b, Z.c, Z.d, Z.e, Z.f, Z.g, Z.h, Z.i, Z.j, Z.k, Z.l, Z.m] at h6
              rw [hb'] at h6; cases h6
        show Runs _ _ _ _ _ _ _ _
        refine Runs.ret ?_
        refine blockQ_ret ?_
        refine thenQ_ret ?_
        refine EndQ.cell (.inr rfl) rfl rfl rfl rfl 0 (by exact Nat.le_refl _) (by exact Nat.zero_le _) (by exact trivial) ⟨?_, rfl⟩
        refine int_eq ?_; unfold Term.check; rw [if_neg (by omega), if_neg (by omega), ha]; rfl
theorem eqf_fn (l m : List Term) (hl : l.length ≤ 2 ^ 30) (h : ∀ x ∈ l, ∀ y ∈ m, Fn Try.prog 28 [.d (enc x), .d (enc y)] [] (.d (.bool (same x y))) []) : Fn Try.prog 50 [.d (.list (encs l)), .d (.list (encs m)), .fn 28 []] [] (.d (.bool (sames l m))) [] := by
  refine Does.run Try.func50 rfl Try.ntmps50 rfl fun K hK => ?_
  refine Runs.rseq ?_
  refine RO.opv (v' := .d (.bool false)) (opv_assign rfl) rfl ?_
  refine RO.nil ?_
  refine Runs.seq ?_
  refine Runs.rseq ?_
  refine RO.opv (v' := .d (.list (encs _))) (opv_move rfl) rfl ?_
  refine RO.opv (v' := .d (.int _ _)) (opv_len_terms rfl) rfl ?_
  refine RO.opv (v' := .d (.list (encs _))) (opv_move rfl) rfl ?_
  refine RO.opv (v' := .d (.int _ _)) (opv_len_terms rfl) rfl ?_
  refine RO.opc (opv_bin rfl rfl rfl) (fun h1 => ?_) (fun h1 => ?_)
  · try simp only [Z.a, Z.b, Z.c, Z.d, Z.e, Z.f, Z.g, Z.h, Z.i, Z.j, Z.k, Z.l, Z.m] at h1
    skip
    refine RO.nil ?_
    refine Runs.condT rfl ?_
    refine Runs.has [(0, .d (.list (encs _))), (1, .d (.list (encs _))), (2, .fn 28 _), (6, .d (.bool false))] ⟨rfl, rfl, rfl, rfl, trivial⟩ ?_
    refine Runs.rseq ?_
    refine RO.opv (v' := .d (.bool false)) (opv_assign rfl) rfl ?_
    refine RO.nil ?_
    refine Runs.ret ?_
    refine thenQ_ret ?_
    refine EndQ.tmp (.inr rfl) rfl rfl 0 (by exact Nat.le_refl _) (by exact Nat.zero_le _) trivial ⟨?_, rfl⟩
    refine bool_eq ?_; exact (sames_len (fun e => h1 (by rw [e]))).symm
  · try simp only [Z.a, Z.b, Z.c, Z.d, Z.e, Z.f, Z.g, Z.h, Z.i, Z.j, Z.k, Z.l, Z.m] at h1
    have hlm : l.length = m.length := by omega
    refine RO.nil ?_
    refine Runs.condF rfl ?_
    refine Runs.skip ?_
    refine thenQ_normal ?_
    refine Runs.has [(0, .d (.list (encs _))), (1, .d (.list (encs _))), (2, .fn 28 _), (6, .d (.bool false))] ⟨rfl, rfl, rfl, rfl, trivial⟩ ?_
    refine Runs.seq ?_
    refine Runs.rseq ?_
    refine RO.opv (v' := .d (.list (encs _))) (opv_move rfl) rfl ?_
    refine RO.opv (v' := .d (.int _ _)) (opv_len_terms rfl) rfl ?_
    refine RO.opv (v' := .d (.int _ _)) (opv_move rfl) rfl ?_
    refine RO.nil ?_
    refine Runs.block ?_
    refine Runs.loopC (X := Nat) (fun i => i ≤ l.length ∧ sames l m = sames (l.drop i) (m.drop i)) (fun i => l.length - i) [(1, .d (.list (encs _))), (2, .fn 28 _), (15, .d (.list (encs _))), (16, .d (.int _ _))] (fun i => [(17, .d (.int .i64 (i : Nat)))]) [] (fun i => []) (0) ⟨rfl, rfl, rfl, rfl, trivial⟩ ⟨rfl, trivial⟩ rfl ⟨Nat.zero_le _, rfl⟩ fun i hi => ?_
    refine Runs.rseq ?_
    refine RO.opc (opv_bin rfl rfl rfl) (fun h2 => ?_) (fun h2 => ?_)
    · try simp only [Z.a, Z.b, Z.c, Z.d, Z.e, Z.f, Z.g, Z.h, Z.i, Z.j, Z.k, Z.l, Z.m] at h2
      have hk : i < l.length := by omega
      refine RO.nil ?_
      refine Runs.seq ?_
      refine Runs.condT rfl ?_
      refine Runs.skip ?_
      refine thenQ_normal ?_
      refine Runs.has [(1, .d (.list (encs _))), (2, .fn 28 _), (15, .d (.list (encs _))), (16, .d (.int _ _)), (17, .d (.int _ _))] ⟨rfl, rfl, rfl, rfl, rfl, trivial⟩ ?_
      refine Runs.seq ?_
      refine Runs.block ?_
      refine Runs.rseq ?_
      refine RO.opv (v' := .d (.int _ _)) (opv_move rfl) rfl ?_
      refine RO.opv (v' := .d (.ptr _)) (opv_index_terms rfl rfl (by omega)) rfl ?_
      refine RO.opv (v' := .d (enc _)) (opv_load_pterm rfl) rfl ?_
      refine RO.opn (v' := .ref 0 0) (O' := [_]) (opv_alloc) rfl rfl ?_
      refine RO.opv (v' := .d (.int _ _)) (opv_assign rfl) rfl ?_
      refine RO.op0n (O' := [_]) (opv_store_term rfl rfl rfl (Nat.le_of_ble_eq_true rfl)) rfl ?_
      refine RO.nil ?_
      refine Runs.has [(1, .d (.list (encs _))), (2, .fn 28 _), (7, .d (.int _ _)), (8, .ref 0 0), (15, .d (.list (encs _))), (16, .d (.int _ _)), (17, .d (.int _ _))] ⟨rfl, rfl, rfl, rfl, rfl, rfl, rfl, trivial⟩ ?_
      refine Runs.rseq ?_
      refine RO.opv (v' := .d (.list (encs _))) (opv_move rfl) rfl ?_
      refine RO.opv (v' := .d (.int _ _)) (opv_move rfl) rfl ?_
      refine RO.opv (v' := .d (.ptr _)) (opv_index_terms rfl rfl (by omega)) rfl ?_
      refine RO.opv (v' := .d (enc _)) (opv_load_pterm rfl) rfl ?_
      refine RO.opn (v' := .ref 1 0) (O' := [_, _]) (opv_alloc) rfl rfl ?_
      refine RO.op0n (O' := [_, _]) (opv_store_term rfl rfl rfl (Nat.le_of_ble_eq_true rfl)) rfl ?_
      refine RO.nil ?_
      refine Runs.has [(1, .d (.list (encs _))), (2, .fn 28 _), (8, .ref 0 0), (9, .ref 1 0), (15, .d (.list (encs _))), (16, .d (.int _ _)), (17, .d (.int _ _))] ⟨rfl, rfl, rfl, rfl, rfl, rfl, rfl, trivial⟩ ?_
      refine Runs.rseq ?_
      refine RO.opv (v' := .fn 28 _) (opv_move rfl) rfl ?_
      refine RO.opv (v' := .d (enc _)) (opv_load_term rfl rfl rfl) rfl ?_
      refine RO.opv (v' := .d (enc _)) (opv_load_term rfl rfl rfl) rfl ?_
      refine RO.opv (v' := .d (.bool _)) (opv_callF (h l[i] (List.getElem_mem _) m[i] (List.getElem_mem _)) rfl rfl rfl trivial) rfl ?_
      refine RO.opc (opv_not rfl rfl) (fun h3 => ?_) (fun h3 => ?_)
      · try simp only [Z.a, Z.b, Z.c, Z.d, Z.e, Z.f, Z.g, Z.h, Z.i, Z.j, Z.k, Z.l, Z.m] at h3
        refine RO.nil ?_
        refine Runs.condT rfl ?_
        refine Runs.has [(1, .d (.list (encs _))), (2, .fn 28 _), (15, .d (.list (encs _))), (16, .d (.int _ _)), (17, .d (.int _ _))] ⟨rfl, rfl, rfl, rfl, rfl, trivial⟩ ?_
        refine Runs.rseq ?_
        refine RO.opv (v' := .d (.bool false)) (opv_assign rfl) rfl ?_
        refine RO.nil ?_
        refine Runs.ret ?_
        refine blockQ_ret ?_
        refine thenQ_ret ?_
        refine thenQ_ret ?_
        refine blockQ_ret ?_
        refine thenQ_ret ?_
        refine EndQ.tmp (.inr rfl) rfl rfl 0 (by exact Nat.le_refl _) (by exact Nat.zero_le _) trivial ⟨?_, rfl⟩
        refine bool_eq ?_; rw [hi.2, sames_drop hk (by omega), h3, Bool.false_and]
      · try simp only [Z.a, Z.b, Z.c, Z.d, Z.e, Z.f, Z.g, Z.h, Z.i, Z.j, Z.k, Z.l, Z.m] at h3
        refine RO.nil ?_
        refine Runs.condF rfl ?_
        refine Runs.skip ?_
        refine blockQ_normal ?_
        refine thenQ_normal ?_
        refine Runs.has [(1, .d (.list (encs _))), (2, .fn 28 _), (15, .d (.list (encs _))), (16, .d (.int _ _)), (17, .d (.int _ _))] ⟨rfl, rfl, rfl, rfl, rfl, trivial⟩ ?_
        refine Runs.region ?_
        refine RO.opv (v' := .d (.int _ _)) (opv_bin rfl rfl rfl) rfl ?_
        refine RO.opv (v' := .d (.int _ _)) (opv_move rfl) rfl ?_
        refine RO.nil ?_
        refine thenQ_normal ?_
        refine ⟨i + 1, 0, (by rw [hK]; exact Nat.le_of_ble_eq_true rfl), ⟨rfl, rfl, rfl, rfl, trivial⟩, ⟨?_, trivial⟩, rfl, ?_, ?_⟩
        · refine int_eq ?_; rw [wrap64 (by omega) (by omega)]; omega
        · refine ⟨by omega, ?_⟩
          rw [hi.2, sames_drop hk (by omega), h3, Bool.true_and]
        · omega
    · try simp only [Z.a, Z.b, Z.c, Z.d, Z.e, Z.f, Z.g, Z.h, Z.i, Z.j, Z.k, Z.l, Z.m] at h2
      have hk : i = l.length := by omega
      refine RO.nil ?_
      refine Runs.seq ?_
      refine Runs.condF rfl ?_
      refine Runs.exit ?_
      refine thenQ_exit ?_
      refine thenQ_exit ?_
      refine blockQ_here ?_
      refine thenQ_normal ?_
      refine Runs.has [] trivial ?_
      refine Runs.rseq ?_
      refine RO.opv (v' := .d (.bool true)) (opv_assign rfl) rfl ?_
      refine RO.nil ?_
      refine Runs.ret ?_
      refine EndQ.tmp (.inr rfl) rfl rfl 0 (by exact Nat.le_refl _) (by exact Nat.zero_le _) trivial ⟨?_, rfl⟩
      refine bool_eq ?_; rw [hi.2, hk, List.drop_length, hlm, List.drop_length]; rfl
theorem same_aux  : ∀ (m : Nat) (t u : Term), t.size ≤ m → t.bulk ≤ 2 ^ 30 → u.bulk ≤ 2 ^ 30 → Fn Try.prog 28 [.d (enc t), .d (enc u)] [] (.d (.bool (same t u))) [] := by
  intro m
  induction m with
  | zero => intro t u h; have := t.size_kids; omega
  | succ m ih =>
  intro t u hm hb hb'
  have hS := t.size_kids
  have hU := t.bulk_kids
  have hU' := u.bulk_kids
  have hL := bulks_len t.kids
  refine Does.run Try.func28 rfl Try.ntmps28 rfl fun K hK => ?_
  refine Runs.rseq ?_
  refine RO.opn (v' := .ref 0 0) (O' := [_]) (opv_box_term rfl) rfl rfl ?_
  refine RO.opn (v' := .ref 1 0) (O' := [_, _]) (opv_box_term rfl) rfl rfl ?_
  refine RO.opv (v' := .d (.bool false)) (opv_assign rfl) rfl ?_
  refine RO.nil ?_
  refine Runs.has [(2, .ref 0 0), (3, .ref 1 0), (4, .d (.bool false))] ⟨rfl, rfl, rfl, trivial⟩ ?_
  refine Runs.rseq ?_
  refine RO.opv (v' := .ref 0 0) (opv_field_ref rfl rfl) rfl ?_
  refine RO.opv (v' := .d (.int _ _)) (opv_load_ref rfl rfl rfl) rfl ?_
  refine RO.opv (v' := .ref 1 0) (opv_field_ref rfl rfl) rfl ?_
  refine RO.opv (v' := .d (.int _ _)) (opv_load_ref rfl rfl rfl) rfl ?_
  refine RO.opv (v' := .d (.bool _)) (opv_bin rfl rfl rfl) rfl ?_
  refine RO.opc (opv_move rfl) (fun h1 => ?_) (fun h1 => ?_)
  · skip
    refine RO.opgv (v' := .ref 0 1) rfl (opv_field_ref rfl rfl) rfl ?_
    refine RO.opgv (v' := .d (.int _ _)) rfl (opv_load_ref rfl rfl rfl) rfl ?_
    refine RO.opgv (v' := .ref 1 1) rfl (opv_field_ref rfl rfl) rfl ?_
    refine RO.opgv (v' := .d (.int _ _)) rfl (opv_load_ref rfl rfl rfl) rfl ?_
    refine RO.opgv (v' := .d (.bool _)) rfl (opv_bin rfl rfl rfl) rfl ?_
    refine RO.opv (v' := .d (.bool _)) (opv_pick rfl rfl) rfl ?_
    refine RO.opc (opv_move rfl) (fun h2 => ?_) (fun h2 => ?_)
    · skip
      refine RO.opgv (v' := .ref 0 2) rfl (opv_field_ref rfl rfl) rfl ?_
      refine RO.opgv (v' := .d (.str _)) rfl (opv_load_ref rfl rfl rfl) rfl ?_
      refine RO.opgv (v' := .ref 1 2) rfl (opv_field_ref rfl rfl) rfl ?_
      refine RO.opgv (v' := .d (.str _)) rfl (opv_load_ref rfl rfl rfl) rfl ?_
      refine RO.opgv (v' := .d (.bool _)) rfl (opv_bin rfl rfl rfl) rfl ?_
      refine RO.opv (v' := .d (.bool _)) (opv_pick rfl rfl) rfl ?_
      refine RO.opc (opv_move rfl) (fun h3 => ?_) (fun h3 => ?_)
      · skip
        refine RO.opgv (v' := .ref 0 3) rfl (opv_field_ref rfl rfl) rfl ?_
        refine RO.opgv (v' := .d (.list (encs _))) rfl (opv_load_ref rfl rfl rfl) rfl ?_
        refine RO.opgv (v' := .ref 1 3) rfl (opv_field_ref rfl rfl) rfl ?_
        refine RO.opgv (v' := .d (.list (encs _))) rfl (opv_load_ref rfl rfl rfl) rfl ?_
        refine RO.opgv (v' := .d (.bool _)) rfl (opv_callF (eqf_fn t.kids u.kids (by omega) (fun x hx y hy => ih x y (by have := sizes_mem hx; omega) (by have := bulks_mem hx; omega) (by have := bulks_mem hy; omega))) rfl rfl rfl trivial) rfl ?_
        refine RO.opv (v' := .d (.bool _)) (opv_pick rfl rfl) rfl ?_
        refine RO.opv (v' := .d (.bool _)) (opv_assign rfl) rfl ?_
        refine RO.nil ?_
        refine Runs.ret ?_
        refine EndQ.tmp (.inr rfl) rfl rfl 0 (by exact Nat.le_refl _) (by exact Nat.zero_le _) trivial ⟨?_, rfl⟩
        refine bool_eq ?_; rw [same_eq]; simp only [*, Bool.true_and, Bool.false_and]
      · skip
        refine RO.off rfl ?_
        refine RO.off rfl ?_
        refine RO.off rfl ?_
        refine RO.off rfl ?_
        refine RO.off rfl ?_
        refine RO.opv (v' := .d (.bool false)) (opv_pick rfl rfl) rfl ?_
        refine RO.opv (v' := .d (.bool false)) (opv_assign rfl) rfl ?_
        refine RO.nil ?_
        refine Runs.ret ?_
        refine EndQ.tmp (.inr rfl) rfl rfl 0 (by exact Nat.le_refl _) (by exact Nat.zero_le _) trivial ⟨?_, rfl⟩
        refine bool_eq ?_; rw [same_eq]; simp only [*, Bool.true_and, Bool.false_and]
    · skip
      refine RO.off rfl ?_
      refine RO.off rfl ?_
      refine RO.off rfl ?_
      refine RO.off rfl ?_
      refine RO.off rfl ?_
      refine RO.opv (v' := .d (.bool false)) (opv_pick rfl rfl) rfl ?_
      refine RO.opv (v' := .d (.bool false)) (opv_move rfl) rfl ?_
      refine RO.off rfl ?_
      refine RO.off rfl ?_
      refine RO.off rfl ?_
      refine RO.off rfl ?_
      refine RO.off rfl ?_
      refine RO.opv (v' := .d (.bool false)) (opv_pick rfl rfl) rfl ?_
      refine RO.opv (v' := .d (.bool false)) (opv_assign rfl) rfl ?_
      refine RO.nil ?_
      refine Runs.ret ?_
      refine EndQ.tmp (.inr rfl) rfl rfl 0 (by exact Nat.le_refl _) (by exact Nat.zero_le _) trivial ⟨?_, rfl⟩
      refine bool_eq ?_; rw [same_eq]; simp only [*, Bool.true_and, Bool.false_and]
  · skip
    refine RO.off rfl ?_
    refine RO.off rfl ?_
    refine RO.off rfl ?_
    refine RO.off rfl ?_
    refine RO.off rfl ?_
    refine RO.opv (v' := .d (.bool false)) (opv_pick rfl rfl) rfl ?_
    refine RO.opv (v' := .d (.bool false)) (opv_move rfl) rfl ?_
    refine RO.off rfl ?_
    refine RO.off rfl ?_
    refine RO.off rfl ?_
    refine RO.off rfl ?_
    refine RO.off rfl ?_
    refine RO.opv (v' := .d (.bool false)) (opv_pick rfl rfl) rfl ?_
    refine RO.opv (v' := .d (.bool false)) (opv_move rfl) rfl ?_
    refine RO.off rfl ?_
    refine RO.off rfl ?_
    refine RO.off rfl ?_
    refine RO.off rfl ?_
    refine RO.off rfl ?_
    refine RO.opv (v' := .d (.bool false)) (opv_pick rfl rfl) rfl ?_
    refine RO.opv (v' := .d (.bool false)) (opv_assign rfl) rfl ?_
    refine RO.nil ?_
    refine Runs.ret ?_
    refine EndQ.tmp (.inr rfl) rfl rfl 0 (by exact Nat.le_refl _) (by exact Nat.zero_le _) trivial ⟨?_, rfl⟩
    refine bool_eq ?_; rw [same_eq]; simp only [*, Bool.true_and, Bool.false_and]
theorem same_fn (t u : Term) (hb : t.bulk ≤ 2 ^ 30) (hb' : u.bulk ≤ 2 ^ 30) : Fn Try.prog 28 [.d (enc t), .d (enc u)] [] (.d (.bool (same t u))) [] := same_aux t.size t u (Nat.le_refl _) hb hb'
end Go.Proofs.Ythpiggjclhnkcaa.AM
