/- A rule for each operation on a lattice. -/
import Derived.Test.YthpiggjclhnkcaaF0
import Derived.ScopeJumps
import Derived.LoopIn
namespace Go.Proofs.Ythpiggjclhnkcaa.AM
open Go
set_option linter.unusedVariables false
set_option linter.unusedSimpArgs false
theorem binD_shr {u b : Nat} {k : IntKind} (hb : b < 64) : binD .shr (.int .u64 ((u : Nat) : Int)) (.int k ((b : Nat) : Int)) = some (.int .u64 ((u >>> b : Nat) : Int)) := by
  have h0 : ¬ ((b : Nat) : Int) < 0 := by omega
  have e : IntKind.u64.bits = 64 := rfl
  simp only [binD, h0, if_false, Int.toNat_natCast, e, Nat.min_eq_left (Nat.le_of_lt hb), Option.some.injEq, D.int.injEq, true_and]
  rw [Nat.shiftRight_eq_div_pow]
  have : ((2 : Int) ^ b) = ((2 ^ b : Nat) : Int) := by simp
  rw [this, Int.fdiv_eq_ediv_of_nonneg _ (Int.natCast_nonneg _), Int.natCast_ediv]
theorem wrapu {x : Int} (h1 : 0 ≤ x) (h2 : x < 2 ^ 64) : IntKind.u64.wrap x = x := by
  have := h1
  simp only [IntKind.wrap, IntKind.bits, IntKind.signed]
  simp
  omega
theorem binD_shl {b : Nat} {k : IntKind} (hb : b < 64) : binD .shl (.int .u64 1) (.int k ((b : Nat) : Int)) = some (.int .u64 ((2 ^ b : Nat) : Int)) := by
  have h0 : ¬ ((b : Nat) : Int) < 0 := by omega
  have e : IntKind.u64.bits = 64 := rfl
  have h2 : ((2 : Int) ^ b) = ((2 ^ b : Nat) : Int) := by simp
  have h3 : 2 ^ b < 2 ^ 64 := Nat.pow_lt_pow_right (by decide) hb
  simp only [binD, h0, if_false, Int.toNat_natCast, e, Nat.min_eq_left (Nat.le_of_lt hb), Int.one_mul, h2]
  rw [wrapu (Int.natCast_nonneg _) (by exact_mod_cast h3)]
theorem ofInt64 {u : Nat} (h : u < 2 ^ 64) : (BitVec.ofInt IntKind.u64.bits ((u : Nat) : Int)).toNat = u := by
  rw [BitVec.ofInt_natCast, BitVec.toNat_ofNat]
  exact Nat.mod_eq_of_lt h
theorem binD_and {u v : Nat} (h1 : u < 2 ^ 64) (h2 : v < 2 ^ 64) : binD .and (.int .u64 ((u : Nat) : Int)) (.int .u64 ((v : Nat) : Int)) = some (.int .u64 ((u &&& v : Nat) : Int)) := by
  have h3 : u &&& v < 2 ^ 64 := Nat.lt_of_le_of_lt Nat.and_le_left h1
  simp only [binD, if_true, bitsOp, BitVec.toNat_and, ofInt64 h1, ofInt64 h2]
  rw [wrapu (Int.natCast_nonneg _) (by exact_mod_cast h3)]
theorem binD_or {u v : Nat} (h1 : u < 2 ^ 64) (h2 : v < 2 ^ 64) : binD .or (.int .u64 ((u : Nat) : Int)) (.int .u64 ((v : Nat) : Int)) = some (.int .u64 ((u ||| v : Nat) : Int)) := by
  have h3 : u ||| v < 2 ^ 64 := Nat.or_lt_two_pow h1 h2
  simp only [binD, if_true, bitsOp, BitVec.toNat_or, ofInt64 h1, ofInt64 h2]
  rw [wrapu (Int.natCast_nonneg _) (by exact_mod_cast h3)]
theorem and1_test (u b : Nat) : ((((u >>> b) &&& 1 : Nat) : Int) == 1) = u.testBit b := by
  rw [Nat.testBit, Nat.and_comm 1]
  have : (u >>> b) &&& 1 = (u >>> b) % 2 := Nat.and_one_is_mod _
  rw [this]
  have h : (u >>> b) % 2 < 2 := Nat.mod_lt _ (by decide)
  cases hc : (u >>> b) % 2 with
  | zero => rfl
  | succ k => cases k with
    | zero => rfl
    | succ k => omega
theorem sm64 {u : Nat} (h : u < 2 ^ 16) : u < 2 ^ 64 := Nat.lt_of_lt_of_le h (by decide)

section
variable {P : Program} {ro : Option Nat} {N : Nat} {K : Org} {T : Nat → AV} {O : List AObj} {dst : Option Tmp} {ty : TypeId} {pos : String} {af : Array Edge} {g : Option (Nat × Bool)}

/-- The bit that is asked. -/
theorem opv_testbit {t yt : TypeId} {x y : Operand} {u b : Nat} (hx : evT T x = .d (.int .u64 (((u >>> b) &&& 1 : Nat) : Int))) (hy : evT T y = .d (.int .u64 1)) : OpV P ro ⟨dst, .binOp .eql t x y yt, ty, pos, af, g⟩ T O (.d (.bool (u.testBit b))) O :=
  opv_bin hx hy (by simp only [binD, if_true, and1_test])

theorem opv_ups_ix {x ix : Operand} {t n e sz : Nat} {k : IntKind} {i : Int} {l : Lt} [S : Arr P t n e sz] (hx : evT T x = .d (.ptr (l.cells.drop 1))) (hi : evT T ix = .d (.int k i)) (h0 : 0 ≤ i) (hl : i < 16) (hn : n = 16) (hs : sz = 1) :
    OpV P ro ⟨dst, .indexAddr t x ix, ty, pos, af, g⟩ T O (.d (.ptr (l.ups.drop i.toNat))) O := by
  subst hs hn
  have := opv_index_aptr (P := P) (ro := ro) (T := T) (O := O) (dst := dst) (ty := ty) (pos := pos) (af := af) (g := g) (S := S) hx hi h0 hl
  rw [Nat.mul_one] at this
  exact this
theorem ups_get {l : Lt} (h : l.Ok) {j : Nat} (hj : j < 16) : (l.ups.drop j).head? = some (.int .u64 ((l.u j : Nat) : Int)) := by
  rw [List.head?_drop]
  unfold Lt.ups Lt.u
  rw [List.getElem?_map, List.getElem?_eq_getElem (by rw [h.len]; exact hj), List.getD_eq_getElem?_getD, List.getElem?_eq_getElem (by rw [h.len]; exact hj)]
  rfl
theorem opv_ups_ld {x : Operand} {t n : Nat} {ag : Bool} {l : Lt} {j : Nat} [S : Sz P t n ag] (hx : evT T x = .d (.ptr (l.ups.drop j))) (h : l.Ok) (hj : j < 16) (hn : n = 1) (ha : ag = false) :
    OpV P ro ⟨dst, .load t x, ty, pos, af, g⟩ T O (.d (.int .u64 ((l.u j : Nat) : Int))) O := by
  subst hn ha
  exact opv_load_ptr (S := S) hx (by simp only [takeD, if_true, ups_get h hj]; rfl)

theorem opv_nilCheck_lat {x : Operand} {l : Lt} (hx : evT T x = .d (encL l)) : OpV P ro ⟨dst, .nilCheck x, ty, pos, af, g⟩ T O (.d (encL l)) O := opv_nilCheck_ptr hx
theorem opv_lat_n {x : Operand} {s fo ft : Nat} {l : Lt} [S : Fld P s 0 fo ft] (hx : evT T x = .d (encL l)) (h0 : fo = 0) : OpV P ro ⟨dst, .fieldAddr s x 0, ty, pos, af, g⟩ T O (.d (.ptr l.cells)) O := by
  subst h0; exact opv_field_ptr (S := S) hx
theorem opv_lat_u {x : Operand} {s fo ft : Nat} {l : Lt} [S : Fld P s 1 fo ft] (hx : evT T x = .d (encL l)) (h0 : fo = 1) : OpV P ro ⟨dst, .fieldAddr s x 1, ty, pos, af, g⟩ T O (.d (.ptr (l.cells.drop 1))) O := by
  subst h0; exact opv_field_ptr (S := S) hx
theorem opv_lat_ldn {x : Operand} {t n : Nat} {ag : Bool} {l : Lt} [S : Sz P t n ag] (hx : evT T x = .d (.ptr l.cells)) (hn : n = 1) (ha : ag = false) :
    OpV P ro ⟨dst, .load t x, ty, pos, af, g⟩ T O (.d (.int .i64 ((l.n : Nat) : Int))) O := by
  subst hn ha
  exact opv_load_ptr (S := S) hx rfl
theorem opv_ups_ixn {x ix : Operand} {t n e sz : Nat} {k : IntKind} {i : Nat} {l : Lt} [S : Arr P t n e sz] (hx : evT T x = .d (.ptr (l.cells.drop 1))) (hi : evT T ix = .d (.int k ((i : Nat) : Int))) (hl : i < 16) (hn : n = 16) (hs : sz = 1) :
    OpV P ro ⟨dst, .indexAddr t x ix, ty, pos, af, g⟩ T O (.d (.ptr (l.ups.drop i))) O :=
  opv_ups_ix (S := S) hx hi (Int.natCast_nonneg _) (by omega) hn hs

/-! The lattice while it is made: an object. -/
theorem opv_lref_ldn {x : Operand} {t n id : Nat} {ag : Bool} {l : Lt} [S : Sz P t n ag] (hx : evT T x = .ref id 0) (hO : O[id]? = some (latO l)) (hn : n = 1) (ha : ag = false) :
    OpV P ro ⟨dst, .load t x, ty, pos, af, g⟩ T O (.d (.int .i64 ((l.n : Nat) : Int))) O := by
  subst hn ha
  exact opv_load_ref (S := S) hx hO rfl
theorem opv_lref_ix {x ix : Operand} {t n e sz id : Nat} {k : IntKind} {i : Int} {l : Lt} [S : Arr P t n e sz] (hx : evT T x = .ref id 1) (hO : O[id]? = some (latO l)) (hi : evT T ix = .d (.int k i)) (h0 : 0 ≤ i) (hl : i < 16) (hn : n = 16) (hs : sz = 1) :
    OpV P ro ⟨dst, .indexAddr t x ix, ty, pos, af, g⟩ T O (.ref id (1 + i.toNat)) O := by
  subst hs hn
  have := opv_index_aref (P := P) (ro := ro) (T := T) (O := O) (dst := dst) (ty := ty) (pos := pos) (af := af) (g := g) (S := S) hx hO hi h0 hl
  rw [Nat.mul_one] at this
  exact this
theorem opv_lref_ixn {x ix : Operand} {t n e sz id : Nat} {k : IntKind} {i : Nat} {l : Lt} [S : Arr P t n e sz] (hx : evT T x = .ref id 1) (hO : O[id]? = some (latO l)) (hi : evT T ix = .d (.int k ((i : Nat) : Int))) (hl : i < 16) (hn : n = 16) (hs : sz = 1) :
    OpV P ro ⟨dst, .indexAddr t x ix, ty, pos, af, g⟩ T O (.ref id (1 + i)) O :=
  opv_lref_ix (S := S) hx hO hi (Int.natCast_nonneg _) (by omega) hn hs
theorem lat_drop (l : Lt) (j : Nat) : (AV.d (.int .i64 ((l.n : Nat) : Int)) :: l.U.map fun u => AV.d (.int .u64 ((u : Nat) : Int))).drop (1 + j) = (l.ups.drop j).map AV.d := by
  rw [Nat.add_comm, List.drop_succ_cons]
  unfold Lt.ups
  rw [← List.map_drop, ← List.map_drop, List.map_map]
  rfl
theorem opv_lref_ld {x : Operand} {t n id : Nat} {ag : Bool} {l : Lt} {j : Nat} [S : Sz P t n ag] (hx : evT T x = .ref id (1 + j)) (hO : O[id]? = some (latO l)) (h : l.Ok) (hj : j < 16) (hn : n = 1) (ha : ag = false) :
    OpV P ro ⟨dst, .load t x, ty, pos, af, g⟩ T O (.d (.int .u64 ((l.u j : Nat) : Int))) O := by
  subst hn ha
  refine opv_load_ref (S := S) hx hO ?_
  rw [lat_drop]
  simp only [takeAV, if_true, List.head?_map, ups_get h hj]
  rfl
theorem setAV_one : ∀ (cs : List AV) (j : Nat) (v : AV), j < cs.length → setAV cs j [v] = cs.set j v := by
  intro cs j v h
  unfold setAV
  rw [List.set_eq_take_append_cons_drop, if_pos h]
  simp
theorem opv_lref_st {p x : Operand} {t n id : Nat} {ag : Bool} {l : Lt} {j v : Nat} [S : Sz P t n ag] (hp : evT T p = .ref id (1 + j)) (hO : O[id]? = some (latO l)) (hx : evT T x = .d (.int .u64 ((v : Nat) : Int))) (h : l.Ok) (hj : j < 16) (hn : n = 1) :
    OpV P ro ⟨dst, .store t p x, ty, pos, af, g⟩ T O .unk (O.set id (latO (l.put j v))) := by
  subst hn
  have := opv_store_ref (P := P) (ro := ro) (T := T) (O := O) (dst := dst) (ty := ty) (pos := pos) (af := af) (g := g) (S := S) hp hO hx rfl rfl (by simp [h.len]; omega) rfl
  rw [setAV_one _ _ _ (by simp [h.len]; omega), Nat.add_comm 1 j, List.set_cons_succ] at this
  rw [show (latO (l.put j v)) = .cells (.d (.int .i64 ((l.n : Nat) : Int)) :: (l.U.map fun u => AV.d (.int .u64 ((u : Nat) : Int))).set j (.d (.int .u64 ((v : Nat) : Int)))) by
    unfold latO Lt.put; simp only [List.map_set]]
  exact this
theorem opv_and1 {t yt : TypeId} {x y : Operand} {u b : Nat} (hx : evT T x = .d (.int .u64 ((u >>> b : Nat) : Int))) (hy : evT T y = .d (.int .u64 1)) (hu : u < 2 ^ 16) :
    OpV P ro ⟨dst, .binOp .and t x y yt, ty, pos, af, g⟩ T O (.d (.int .u64 (((u >>> b) &&& 1 : Nat) : Int))) O :=
  opv_bin hx hy (b := .int .u64 ((1 : Nat) : Int)) (binD_and (Nat.lt_of_le_of_lt (Nat.shiftRight_le u b) (sm64 hu)) (by decide))
theorem opv_shl1 {t yt : TypeId} {x y : Operand} {b : Nat} {k : IntKind} (hx : evT T x = .d (.int .u64 1)) (hy : evT T y = .d (.int k ((b : Nat) : Int))) (hb : b < 64) :
    OpV P ro ⟨dst, .binOp .shl t x y yt, ty, pos, af, g⟩ T O (.d (.int .u64 ((2 ^ b : Nat) : Int))) O := opv_bin hx hy (binD_shl hb)
theorem opv_shr {t yt : TypeId} {x y : Operand} {u b : Nat} {k : IntKind} (hx : evT T x = .d (.int .u64 ((u : Nat) : Int))) (hy : evT T y = .d (.int k ((b : Nat) : Int))) (hb : b < 64) :
    OpV P ro ⟨dst, .binOp .shr t x y yt, ty, pos, af, g⟩ T O (.d (.int .u64 ((u >>> b : Nat) : Int))) O := opv_bin hx hy (binD_shr hb)
theorem opv_index_pairs {x ix : Operand} {t e : Nat} {i : Nat} {l : List (Int × Int)} [S : Slc P t e 2] (hx : evT T x = .d (.list (encPs l))) (hi : evT T ix = .d (.int .i64 i)) (hl : i < l.length) :
    OpV P ro ⟨dst, .indexAddr t x ix, ty, pos, af, g⟩ T O (.d (.ptr [.int .i64 l[i].1, .int .i64 l[i].2])) O :=
  opv_index_list (y := encP l[i]) hx hi (Int.natCast_nonneg _) (by simp [encPs, hl]) rfl
theorem opv_len_pairs {x : Operand} {t e : TypeId} {l : List (Int × Int)} [S : Und P t (.slice e)] (hx : evT T x = .d (.list (encPs l))) : OpV P ro ⟨dst, .call { callee := .builtin .len, args := #[x], argTypes := #[t] }, ty, pos, af, g⟩ T O (.d (.int .i64 (l.length : Nat))) O := by
  have h := opv_len (P := P) (ro := ro) (T := T) (O := O) (dst := dst) (ty := ty) (pos := pos) (af := af) (g := g) (t := t) hx rfl rfl
  rwa [encPs_len] at h
theorem shifts_app (k : Nat) : ∀ xs ys : List AV, AV.shifts k (xs ++ ys) = AV.shifts k xs ++ AV.shifts k ys
  | [], ys => rfl
  | x :: xs, ys => by simp only [List.cons_append, AV.shifts, shifts_app k xs ys]
/-- The call of a closure that is handed the m objects behind the first k. -/
theorem opv_callSC (k m : Nat) {c : Operand} {xs : Array Operand} {ts : Array TypeId} {f : FuncId} {ys caps : List AV} {v : AV} {Om O1 : List AObj} [S : Fnc P f]
    (h : Fn P f (ys ++ caps) Om v O1) (hc : evT T c = .fn f (AV.shifts k caps)) (hx : xs.toList.map (evT T) = AV.shifts k ys) (hO : O.take (k + m) = O.take k ++ shiftO k Om) (hm : k + m ≤ O.length) (hl : O1.length = m) (hb : AV.bds m (ys ++ caps)) :
    OpV P ro ⟨dst, .call { callee := .value c, args := xs, argTypes := ts }, ty, pos, af, g⟩ T O (v.shift k) (O.take k ++ shiftO k O1 ++ O.drop (k + m)) := by
  have hk : (O.take k).length = k := by simp; omega
  have h2 := h.shift (O.take k)
  rw [hk, ← hO, shifts_app] at h2
  refine opv_callP (k + m) (ys := AV.shifts k ys) (caps := AV.shifts k caps) h2 hc hx hm (by rw [List.length_append, hk, shiftO_len, hl]) ?_
  rw [← shifts_app]
  exact (AV.bds_shift (ys ++ caps)).2 hb
/-- Two numbers in an array. -/
theorem opv_build_pair {t e : TypeId} {x y : Operand} {a b : Int} {z : List AV} [S : Arr P t 2 e 1] [Z : Ze P t z] (hz2 : z.length = 2) (hx : evT T x = .d (.int .i64 a)) (hy : evT T y = .d (.int .i64 b)) :
    OpV P ro ⟨dst, .build t #[(0, x), (1, y)], ty, pos, af, g⟩ T O (.d (encP (a, b))) O :=
  OpV.of_same (fun c h => by cases h) fun w F γ ac I H => by
    obtain ⟨zv, hz, he, ho⟩ := Z.h
    obtain ⟨i, hi, hz⟩ := Option.bind_eq_some_iff.1 hz
    obtain ⟨ie, hie, hsz⟩ := Option.map_eq_some_iff.1 S.info
    have h1 : ac.eval x = .int .i64 a := H.at (x := x) (by simp [Op.operands]) hx
    have h2 : ac.eval y = .int .i64 b := H.at (x := y) (by simp [Op.operands]) hy
    have hl : zv.cells.size = 2 := by have := congrArg List.length he; simpa [hz2] using this
    have hb : P.built t ((#[(0, x), (1, y)].map fun p => (p.1, ac.eval p.2)).toList) = some #[.int .i64 a, .int .i64 b] := by
      unfold Program.built
      rw [hi, S.und]
      simp only [hz, hie, hsz]
      obtain ⟨u, v, hc⟩ : ∃ u v, zv.cells = #[u, v] := by
        have h0 : zv.cells.toList.length = 2 := by simpa using hl
        match hq : zv.cells.toList, h0 with
        | [u, v], _ => exact ⟨u, v, by rw [← Array.toArray_toList (xs := zv.cells), hq]⟩
      rw [hc]
      simp only [h1, h2, Array.toList_map, List.map_cons, List.map_nil]
      rfl
    have := run_build (P := P) w t (#[(0, x), (1, y)].map fun p => (p.1, ac.eval p.2)) #[.int .i64 a, .int .i64 b] hb
    refine ⟨.agg #[.int .i64 a, .int .i64 b], ?_, ?_⟩
    · simp only [execOp, Sem.run_bind, this, Result.andThen_ok]; rfl
    · exact ⟨[.int .i64 a, .int .i64 b], rfl, _, _, rfl, rfl, rfl, _, _, rfl, rfl, rfl, rfl⟩
/-- A lattice that is made. -/
theorem allD_map : ∀ l : List D, allD (l.map AV.d) = some l
  | [] => rfl
  | x :: l => by simp [allD, allD_map l]
theorem Runs.freezeL {c : Code} {Q : Exit → (Nat → AV) → List AObj → Prop} (s : Nat) {id : Nat} {l : Lt} (hs : T s = .ref id 0) (hO : O[id]? = some (latO l))
    (h : Runs P ro N K c (upd T s (.d (encL l))) (O.set id .dead) Q) : Runs P ro N K c T O Q :=
  Runs.freeze s hs hO (ds := l.cells) (by
    have : (AV.d (.int .i64 ((l.n : Nat) : Int)) :: l.U.map fun u => AV.d (.int .u64 ((u : Nat) : Int))) = l.cells.map AV.d := by simp [Lt.cells, Lt.ups]
    rw [this]; exact allD_map _) h
end

/-! Scopes in which the run jumps back to one label. -/
section
variable {F : Fence} {n : Nat} {P : Program} {Q : Exit → Act → World → Prop} {a : Act} {w : World} {b : Frame} {k : List Item} {cs : List Frame}
theorem stepR_scope {c : Code} : step P (lone (b.atR a (.code (.scope c) :: k)) cs w) = .next (lone (b.atR a (.code c :: .inScope c :: k)) cs w) :=
  step_lone_go (by simp [stepG, stepG.exec, Frame.atR])
theorem stepR_inScope {c : Code} : step P (lone (b.atR a (.inScope c :: k)) cs w) = .next (lone (b.atR a k) cs w) :=
  step_lone_go (by simp [stepG, stepG.exec, Frame.atR])
theorem wpIn_scope {c rest : Code} (l : Nat) (J : Act → World → Prop) (μ : Act → World → Nat) (hf : findLabel c l = some rest) (h1 : c = .seq (.label l) rest ∨ True)
    (first : c.wpIn F n P (Exit.jump l J Q) a w)
    (pass : ∀ a w, J a w → rest.wpIn F n P (Exit.jump l (fun a' w' => J a' w' ∧ μ a' w' < μ a w) Q) a w) : (Code.scope c).wpIn F n P Q a w := by
  intro b k cs hro hb hr
  have h0 : (lone (b.atR a (.code (.scope c) :: k)) cs w).fenced P F := fenced_calm hb hr rfl
  have hg : gotoIn l (.inScope c :: k) = some (.code rest :: .inScope c :: k) := by simp [gotoIn, hf]
  have key : ∀ n a w, μ a w = n → J a w → ∃ e a' w', Q e a' w' ∧ ArrivesIn (Machine.fenced P F) P (lone (b.atR a (.code rest :: .inScope c :: k)) cs w) b k cs e a' w' := by
    intro n
    induction n using Nat.strongRecOn with
    | _ n ih =>
      intro a w hn hJ
      obtain ⟨e, a₁, w₁, hq, harr⟩ := pass a w hJ b (.inScope c :: k) cs hro hb hr
      cases e with
      | normal => exact ⟨.normal, a₁, w₁, hq, StepsIn.trans harr (.one (fenced_calm hb hr rfl) stepR_inScope)⟩
      | exit id =>
        have hx : exitTo id (.inScope c :: k) = exitTo id k := by simp [exitTo]
        exact ⟨.exit id, a₁, w₁, hq, fun k' hk => harr.1 k' (by rw [hx]; exact hk), fun hr' hk => harr.2 hr' (by rw [hx]; exact hk)⟩
      | goto l' =>
        obtain ⟨rfl, hJ', hlt⟩ := hq
        obtain ⟨e₂, a₂, w₂, hq₂, harr₂⟩ := ih _ (by omega) a₁ w₁ rfl hJ'
        exact ⟨e₂, a₂, w₂, hq₂, .of_steps (harr.1 _ hg) harr₂⟩
      | ret => exact ⟨_, a₁, w₁, hq, harr⟩
      | panic ch => exact ⟨_, a₁, w₁, hq, harr⟩
      | outgrown => exact ⟨_, a₁, w₁, hq, harr⟩
  obtain ⟨e, a₁, w₁, hq, harr⟩ := first b (.inScope c :: k) cs hro hb hr
  cases e with
  | normal => exact ⟨.normal, a₁, w₁, hq, .head h0 stepR_scope (StepsIn.trans harr (.one (fenced_calm hb hr rfl) stepR_inScope))⟩
  | exit id =>
    have hx : exitTo id (.inScope c :: k) = exitTo id k := by simp [exitTo]
    exact ⟨.exit id, a₁, w₁, hq, fun k' hk => .head h0 stepR_scope (harr.1 k' (by rw [hx]; exact hk)), fun hr' hk => let ⟨k₁, h1, h2⟩ := harr.2 hr' (by rw [hx]; exact hk); ⟨k₁, h1, .head h0 stepR_scope h2⟩⟩
  | goto l' =>
    obtain ⟨rfl, hJ'⟩ := hq
    obtain ⟨e₂, a₂, w₂, hq₂, harr₂⟩ := key _ a₁ w₁ rfl hJ'
    exact ⟨e₂, a₂, w₂, hq₂, .of_steps (.head h0 stepR_scope (harr.1 _ hg)) harr₂⟩
  | ret => exact ⟨_, a₁, w₁, hq, .of_steps (.one h0 stepR_scope) harr⟩
  | panic ch => exact ⟨_, a₁, w₁, hq, .of_steps (.one h0 stepR_scope) harr⟩
  | outgrown => exact ⟨_, a₁, w₁, hq, .of_steps (.one h0 stepR_scope) harr⟩
end
section
variable {P : Program} {ro : Option Nat} {N : Nat} {K : Org} {T : Nat → AV} {O : List AObj}
theorem Runs.goto {l : Nat} {Q : Exit → (Nat → AV) → List AObj → Prop} (h : Q (.goto l) T O) : Runs P ro N K (.goto l) T O Q := fun a w hat => wpIn_goto ⟨T, O, hat, h⟩
theorem Runs.label {l : Nat} {Q : Exit → (Nat → AV) → List AObj → Prop} (h : Q .normal T O) : Runs P ro N K (.label l) T O Q := fun a w hat => wpIn_label ⟨T, O, hat, h⟩
def scopeQ (l : Nat) (J : (Nat → AV) → List AObj → Prop) (Q : Exit → (Nat → AV) → List AObj → Prop) : Exit → (Nat → AV) → List AObj → Prop
  | .goto l', T, O => l' = l ∧ J T O
  | e, T, O => Q e T O
/-- A scope that begins with its label, in terms of what a pass begins with. -/
theorem Runs.scopeD {c : Code} {Q : Exit → (Nat → AV) → List AObj → Prop} {X : Type} (l : Nat) (I : X → Prop) (μ : X → Nat) (lv : X → List (Nat × AV)) (Ob : X → List AObj) (x0 : X) (h0 : I x0) (hT : Has T (lv x0)) (hO : O = Ob x0)
    (pass : ∀ x, I x → Runs P ro N K c (tb (lv x)) (Ob x) (scopeQ l (fun T O => ∃ y n, I y ∧ μ y < μ x ∧ K.O.length ≤ n ∧ Has (fun s => (T s).kill n) (lv y) ∧ O.take n = Ob y) Q)) : Runs P ro N K (.scope (.seq (.label l) c)) T O Q := by
  have key : ∀ (x : X), I x → Runs P ro N K (.scope (.seq (.label l) c)) (tb (lv x)) (Ob x) Q := by
    intro x hx a w hat
    have hmin : ∀ a w, (∃ x, I x ∧ At N K (tb (lv x)) (Ob x) a w) → ∃ m, (∃ x, I x ∧ μ x = m ∧ At N K (tb (lv x)) (Ob x) a w) ∧ ∀ x, I x → At N K (tb (lv x)) (Ob x) a w → m ≤ μ x := by
      rintro a w ⟨x, hx, hat⟩
      generalize hn : μ x = n
      induction n using Nat.strongRecOn generalizing x with
      | _ n ih =>
        by_cases hlt : ∃ y, I y ∧ At N K (tb (lv y)) (Ob y) a w ∧ μ y < n
        · obtain ⟨y, h1, h2, h3⟩ := hlt; exact ih (μ y) h3 y h1 h2 rfl
        · exact ⟨n, ⟨x, hx, hn, hat⟩, fun y h1 h2 => Nat.le_of_not_lt fun h3 => hlt ⟨y, h1, h2, h3⟩⟩
    -- one pass
    have one : ∀ x, I x → ∀ a w, At N K (tb (lv x)) (Ob x) a w → c.wpIn (WF ro) 0 P (Exit.jump l (fun a' w' => (∃ y, I y ∧ At N K (tb (lv y)) (Ob y) a' w') ∧ (Classical.epsilon fun m => (∃ x, I x ∧ μ x = m ∧ At N K (tb (lv x)) (Ob x) a' w') ∧ ∀ x, I x → At N K (tb (lv x)) (Ob x) a' w' → m ≤ μ x) < μ x) (fun e a' w' => ∃ T' O', At N K T' O' a' w' ∧ Q e T' O')) a w := by
      intro x hx a w hat
      refine wpIn_mono (pass x hx a w hat) fun e a' w' ⟨T', O', h1, h2⟩ => ?_
      cases e with
      | goto l' =>
        obtain ⟨rfl, y, n, hy, hlt, hn, hh, ho⟩ := h2
        have hat' : At N K (tb (lv y)) (Ob y) a' w' := by have := (h1.drop n hn).weak hh.tb; rw [ho] at this; exact this
        exact ⟨rfl, ⟨y, hy, hat'⟩, Nat.lt_of_le_of_lt ((Classical.epsilon_spec (hmin a' w' ⟨y, hy, hat'⟩)).2 y hy hat') hlt⟩
      | _ => exact ⟨T', O', h1, h2⟩
    refine wpIn_scope (rest := .seq .skip c) l (fun a w => ∃ x, I x ∧ At N K (tb (lv x)) (Ob x) a w) (fun a w => Classical.epsilon fun m => (∃ x, I x ∧ μ x = m ∧ At N K (tb (lv x)) (Ob x) a w) ∧ ∀ x, I x → At N K (tb (lv x)) (Ob x) a w → m ≤ μ x) (by simp [findLabel]) (.inr trivial) ?_ ?_
    · refine wpIn_seq (wpIn_label ?_)
      refine wpIn_mono (one x hx a w hat) fun e a' w' h => ?_
      cases e with
      | goto l' => exact ⟨h.1, h.2.1⟩
      | _ => exact h
    · rintro a w ⟨x1, hx1, hat1⟩
      obtain ⟨⟨x2, hx2, hμ, hat2⟩, hmn⟩ := Classical.epsilon_spec (hmin a w ⟨x1, hx1, hat1⟩)
      refine wpIn_seq (wpIn_skip ?_)
      have := one x2 hx2 a w hat2
      rw [hμ] at this
      exact this
  subst hO
  exact Runs.has _ hT (key x0 h0)
theorem Runs.scopeC {c : Code} {Q : Exit → (Nat → AV) → List AObj → Prop} {X : Type} (l : Nat) (I : X → Prop) (μ : X → Nat) (lc : List (Nat × AV)) (lv : X → List (Nat × AV)) (Oc : List AObj) (Ob : X → List AObj) (x0 : X) (hc : Has T lc) (hT : Has T (lv x0)) (hO : O = Oc ++ Ob x0) (h0 : I x0)
    (pass : ∀ x, I x → Runs P ro N K c (tb (lv x ++ lc)) (Oc ++ Ob x) (scopeQ l (fun T O => ∃ y n, K.O.length ≤ n ∧ Has (fun s => (T s).kill n) lc ∧ Has (fun s => (T s).kill n) (lv y) ∧ O.take n = Oc ++ Ob y ∧ I y ∧ μ y < μ x) Q)) : Runs P ro N K (.scope (.seq (.label l) c)) T O Q := by
  have happ : ∀ (T : Nat → AV) (a b : List (Nat × AV)), Has T a → Has T b → Has T (a ++ b) := by
    intro T a b ha hb
    induction a with
    | nil => exact hb
    | cons p a ih => exact ⟨ha.1, ih ha.2⟩
  refine Runs.scopeD l I μ (fun x => lv x ++ lc) (fun x => Oc ++ Ob x) x0 h0 (happ _ _ _ hT hc) hO fun x hx => ?_
  refine (pass x hx).mono fun e T O h => ?_
  cases e with
  | goto l' => obtain ⟨e, y, n, h1, h2, h3, h4, h5, h6⟩ := h; exact ⟨e, y, n, h5, h6, h1, happ _ _ _ h3 h2, h4⟩
  | _ => exact h
theorem thenQ_goto {A : (Nat → AV) → List AObj → Prop} {Q : Exit → (Nat → AV) → List AObj → Prop} {l : Nat} (h : Q (.goto l) T O) : thenQ A Q (.goto l) T O := h
theorem blockQ_goto {id : Nat} {Q : Exit → (Nat → AV) → List AObj → Prop} {l : Nat} (h : Q (.goto l) T O) : blockQ id Q (.goto l) T O := h
theorem scopeQ_normal {l : Nat} {J : (Nat → AV) → List AObj → Prop} {Q : Exit → (Nat → AV) → List AObj → Prop} (h : Q .normal T O) : scopeQ l J Q .normal T O := h
theorem scopeQ_ret {l : Nat} {J : (Nat → AV) → List AObj → Prop} {Q : Exit → (Nat → AV) → List AObj → Prop} (h : Q .ret T O) : scopeQ l J Q .ret T O := h
theorem scopeQ_exit {l j : Nat} {J : (Nat → AV) → List AObj → Prop} {Q : Exit → (Nat → AV) → List AObj → Prop} (h : Q (.exit j) T O) : scopeQ l J Q (.exit j) T O := h
theorem scopeQ_goto {l : Nat} {J : (Nat → AV) → List AObj → Prop} {Q : Exit → (Nat → AV) → List AObj → Prop} (h : J T O) : scopeQ l J Q (.goto l) T O := ⟨rfl, h⟩
end
end Go.Proofs.Ythpiggjclhnkcaa.AM
