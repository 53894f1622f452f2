/- Slices that hold slices of the call's own. -/
import Derived.Test.YtljmkgjemmoegaaF1
namespace Go.Proofs.Ytljmkgjemmoegaa.AM
open Go
set_option linter.unusedVariables false
set_option linter.unusedSimpArgs false
section
variable {w w' : World} {F F' : Nat → Prop} {γ γ' : List GO} {O O' : List AObj}
/-- An object goes on as another one, that stands last. -/
theorem inv_move (I : Inv w F γ O) {i : Nat} {o o' : AObj} {g g' : GO} (hi : O[i]? = some o) (hgi : γ[i]? = some g)
    (hos : w'.os = w.os) (ht : w'.tape = w.tape) (hout : w'.output = w.output) (hs : w.heap.size ≤ w'.heap.size)
    (hold : ∀ b, b < w.heap.size → g.blk ≠ some b → w'.heap[b]? = w.heap[b]?)
    (hg : ∀ b, g'.blk = some b → (g.blk = some b ∨ w.heap.size ≤ b) ∧ b < w'.heap.size) (hbd : o'.bd (O.length + 1))
    (hok : Evo w F γ O w' F (γ.set i { blk := none } ++ [g']) (O.set i .dead ++ [o']) → OkObj w' F (γ.set i { blk := none } ++ [g']) (O.set i .dead ++ [o']) o' g') :
    Inv w' F (γ.set i { blk := none } ++ [g']) (O.set i .dead ++ [o']) ∧ Evo w F γ O w' F (γ.set i { blk := none } ++ [g']) (O.set i .dead ++ [o']) := by
  obtain ⟨I1, E1⟩ := I.upd (w' := w') (F' := F) (o' := .dead) (g' := { blk := none }) hi hgi hos ht hout hs hold (fun b h => by cases h) (fun b h => by cases h) (fun _ h => h) (fun _ h => .inl h) trivial trivial (fun E => rfl)
  have hiγ : i < γ.length := (List.getElem?_eq_some_iff.1 hgi).1
  have hlen : (γ.set i ({ blk := none } : GO)).length = (O.set i AObj.dead).length := I1.len
  have hol : (O.set i AObj.dead).length = O.length := by simp
  have E : Evo w F γ O w' F (γ.set i { blk := none } ++ [g']) (O.set i .dead ++ [o']) := by
    refine ⟨hos, ht, hout, hs, E1.old, fun j g1 b e1 e2 => ?_, E1.frm, E1.frn, fun j o1 o2 g1 g2 e1 e2 e3 e4 => ?_, by simp⟩
    · rcases getElem?_snoc _ g' j e1 with ⟨e, _⟩ | ⟨_, rfl⟩
      · exact E1.mine j g1 b e e2
      · exact (hg b e2).1.imp (fun h => ⟨i, g, hgi, h⟩) (fun h => h)
    · have hj : j < O.length := (List.getElem?_eq_some_iff.1 e1).1
      have hjγ : j < γ.length := (List.getElem?_eq_some_iff.1 e2).1
      rw [List.getElem?_append_left (by simpa using hj)] at e3
      rw [List.getElem?_append_left (by simpa using hjγ)] at e4
      exact E1.stab j o1 o2 g1 g2 e1 e2 e3 e4
  have hll : (γ.set i ({ blk := none } : GO) ++ [g']).length = (O.set i AObj.dead ++ [o']).length := by rw [List.length_append, List.length_append, hlen]; rfl
  have fresh : ∀ (j : Nat) (g1 : GO) (b : Nat), (γ.set i ({ blk := none } : GO))[j]? = some g1 → g1.blk = some b → g'.blk = some b → False := by
    intro j g1 b e1 e2 e3
    rcases getElem?_set' γ i j { blk := none } e1 with ⟨hne, e⟩ | ⟨_, rfl, _⟩
    · rcases (hg b e3).1 with h | h
      · exact hne (I.inj j i g1 g b e hgi e2 h).symm
      · have := (I.blks j g1 b e e2).1; omega
    · cases e2
  refine ⟨⟨hll, fun j o1 g1 ho hg1 => ?_, fun j o1 ho => ?_, fun j g1 b hg1 hb => ?_, fun j k g1 g2 b e1 e2 e3 e4 => ?_, I1.fr⟩, E⟩
  · rcases getElem?_snoc _ o' j ho with ⟨e, hj⟩ | ⟨hj, rfl⟩
    · rw [List.getElem?_append_left (by omega)] at hg1
      exact (I1.ok j o1 g1 e hg1).mono (fun _ h => h) (fun _ _ => rfl) (Emb.app _ _) (fun _ _ => rfl)
    · rw [List.getElem?_append_right (by omega), show j - (γ.set i ({ blk := none } : GO)).length = 0 by omega] at hg1
      cases hg1
      exact hok E
  · rcases getElem?_snoc _ o' j ho with ⟨e, hj⟩ | ⟨hj, rfl⟩
    · exact I1.bd j o1 e
    · rw [hj, hol]; exact hbd
  · rcases getElem?_snoc _ g' j hg1 with ⟨e, _⟩ | ⟨_, rfl⟩
    · exact I1.blks j g1 b e hb
    · refine ⟨(hg b hb).2, fun hF => ?_⟩
      rcases (hg b hb).1 with h | h
      · exact (I.blks i g b hgi h).2 hF
      · have := I.fr b hF; omega
  · rcases getElem?_snoc _ g' j e1 with ⟨a1, _⟩ | ⟨a1, q1⟩ <;> rcases getElem?_snoc _ g' k e2 with ⟨a2, _⟩ | ⟨a2, q2⟩
    · exact I1.inj j k g1 g2 b a1 a2 e3 e4
    · exact (fresh j g1 b a1 e3 (by rw [← q2]; exact e4)).elim
    · exact (fresh k g2 b a2 e4 (by rw [← q1]; exact e3)).elim
    · omega
end
section
variable {P : Program} {ro : Option Nat} {N : Nat} {K : Org} {T : Nat → AV} {O : List AObj} {dst : Option Tmp} {ty : TypeId} {pos : String} {af : Array Edge} {g : Option (Nat × Bool)}
theorem vbuf_val {w : World} {F : Nat → Prop} {γ : List GO} (I : Inv w F γ O) {i e : Nat} {xs : List AV} {v : Value} (hO : O[i]? = some (.vbuf e xs)) (h : AV.V w F γ O (.own i 0) v) :
    ∃ (gg : GO) (b : Nat) (us : List Value), γ[i]? = some gg ∧ gg.blk = some b ∧ Row w b e 1 gg.cap us.length us ∧ AV.VC w F γ O xs us ∧ v = .slice (some ⟨b, 0, none⟩) xs.length gg.cap ∧ us.length = xs.length := by
  obtain ⟨_, gg, o, hg, ho, hm⟩ := h
  rw [hO] at ho; cases ho
  obtain ⟨b, us, h1, h2, h3⟩ := I.ok i _ gg hO hg
  refine ⟨gg, b, us, hg, h1, h2, h3, ?_, VC_length xs us h3⟩
  have := hm.2 rfl
  rw [this]
  simp [GO.slice, h1]
theorem own_vbuf {γ : List GO} {w : World} {F : Nat → Prop} {i e : Nat} {xs : List AV} {b cap : Nat} (hg : γ[i]? = some { blk := some b, cap := cap }) (hO : O[i]? = some (.vbuf e xs)) : AV.V w F γ O (.own i 0) (.slice (some ⟨b, 0, none⟩) xs.length cap) :=
  ⟨rfl, _, _, hg, hO, Nat.le_refl _, fun _ => by simp [GO.slice]⟩

/-- A slice of one. -/
theorem opv_bs_v {t e : TypeId} {x : Operand} {v : AV} {z : List AV} [S : Slc P t e 1] [Z : Ze P e z] (hx : evT T x = v) (hv : v.one = true) (hbd : v.bd O.length) :
    OpV P ro ⟨dst, .buildSlice t 1 #[(0, x)], ty, pos, af, g⟩ T O (.own O.length 0) (O ++ [.vbuf e [v]]) :=
  OpV.of_run (fun c h => by cases h) fun w F γ a I H => by
    obtain ⟨zv, hz, he, ho⟩ := Z.h
    obtain ⟨ie, hi, hz⟩ := Option.bind_eq_some_iff.1 hz
    have hu : v.V w F γ O (a.eval x) := H.at (x := x) (by simp [Op.operands]) hx
    have hone : (a.eval x).oneCell' = true := AV.V_one hv hu
    have hcell := cells_one hone
    have hrun : (execOp a.eval ⟨dst, .buildSlice t 1 #[(0, x)], ty, pos, af, g⟩).run P w = .ok (.value (.slice (some ⟨w.heap.size, 0, none⟩) 1 1)) (w.alloc (.cells #[a.eval x] e)) := by
      have e1' : Instr.fill (fun i => some (i * 1, 1)) ((Array.range (1 * 1)).map ((if 1 * 1 = 0 then #[] else zv.cells)[· % (if 1 * 1 = 0 then #[] else zv.cells).size]!)) [(0, a.eval x)] = some #[a.eval x] := by
        simp only [Instr.fill, hcell]
        simp
        apply Array.ext
        · simp
        · intro i h1 h2
          simp at h1 h2
          subst h2
          simp
      simp only [execOp, Instr.buildSlice, Sem.run_bind, run_underlying S.und, Result.andThen_ok, run_size_of S.info]
      rw [if_neg (by omega)]
      simp only [show (1 * 1 = 0) = False by simp, if_false] at e1' ⊢
      simp only [Sem.run_bind, zeroValue, typeInfo, run_program, Result.andThen_ok, hi, hz, Sem.run_pure]
      simp only [List.map_toArray, List.map_cons, List.map_nil]
      rw [e1']
      simp [newRow]
    obtain ⟨I', E⟩ := I.push (w' := w.alloc (.cells #[a.eval x] e)) (.vbuf e [v]) { blk := some w.heap.size, cap := 1 } rfl rfl rfl (by simp) (fun b hb => heap_alloc_old w _ hb) (fun b h => by cases h; simp) ⟨AV.bd_mono (Nat.le_succ _) _ hbd, trivial⟩
      (fun E => ⟨w.heap.size, [a.eval x], rfl, ⟨rfl, Nat.le_refl _, by show (1 : Nat) ≤ maxLen; unfold maxLen; omega, #[a.eval x], heap_alloc_new w _, by simp, by simp⟩, _, _, rfl, hv, AV.V_evo I E (by simp [I.len]) _ _ hu, rfl⟩)
    exact ⟨_, _, F, _, .inl hrun, own_vbuf (e := e) (i := O.length) (xs := [v]) (b := w.heap.size) (cap := 1) (by rw [← I.len]; simp) (by simp), I', E⟩
theorem vbuf_grow {t e by_ : Nat} {z : List AV} [S : Slc P t e 1] [Z : Ze P e z] [B : Byt P e by_] (hz : Nat.beq z.length 1 = true) (hby : Nat.ble by_ 4096 = true) {w : World} {A0 : Option Addr} {n c0 m cap' b' : Nat} {cs us : List Value}
    (hA0 : A0 = none → n = 0 ∧ c0 = 0) (hcs : cs.length = n) (hold : ∀ (j : Nat) (u : Value), cs[j]? = some u → (A0.bind fun ad => w.cell? (ad.add j)) = some u)
    (hrow : ∀ (j : Nat) (u : Value), us[j]? = some u → w.cell? ((⟨b', 0, none⟩ : Addr).add j) = some u) (hl : us.length = m) (hm : n + m ≤ 1073741824) (hg : c0 < n + m) :
    ∃ cap w', (Builtin.append_ #[t, t] ty #[.slice A0 n c0, .slice (some ⟨b', 0, none⟩) m cap']).run P w = .ok (.slice (some ⟨w.heap.size, 0, none⟩) (n + m) cap) w' ∧
      Row w' w.heap.size e 1 cap (n + m) (cs ++ us) ∧ w.grownBy w' none ∧ w.heap.size < w'.heap.size := by
  obtain ⟨cap, w', h1, h2, h3, h4⟩ := app_grow (P := P) (w := w) (t := t) (ty := ty) hz (A0 := A0) (n := n) (c0 := c0) (cs := cs) hA0 (by omega) hold (ad := ⟨b', 0, none⟩) (m := m) (c := cap') (news := us) (by omega) hrow (bytes_of hm hby) (maxLen_of hm) hg
  exact ⟨cap, w', h1, Row.of_owns h2, h3, h4⟩
theorem opv_append_v0 {s x : Operand} {t e by_ j : Nat} {ys : List AV} {z : List AV} [S : Slc P t e 1] [Z : Ze P e z] [B : Byt P e by_] (hs : evT T s = .nil0) (hx : evT T x = .own j 0) (hO : O[j]? = some (.vbuf e ys)) (hne : 0 < ys.length) (hm : ys.length ≤ 1073741824) (hz : Nat.beq z.length 1 = true := by rfl) (hby : Nat.ble by_ 4096 = true := by rfl) :
    OpV P ro ⟨dst, .call { callee := .builtin .append, args := #[s, x], argTypes := #[t, t] }, ty, pos, af, g⟩ T O (.own O.length 0) (O ++ [.vbuf e ys]) :=
  OpV.of_run (fun c h => by cases h) fun w F γ a I H => by
    obtain ⟨A, hA⟩ : ∃ A, a.eval s = .slice A 0 0 := H.at (x := s) (by simp [Op.operands, Call.operands]) hs
    obtain ⟨gg, b, us, hg, hb, hrow, hVC, hxv, hul⟩ := vbuf_val I hO (H.at (x := x) (by simp [Op.operands, Call.operands]) hx)
    obtain ⟨cap, w', hr, hrow', hgr, hlt⟩ := vbuf_grow (P := P) (t := t) (ty := ty) hz hby (w := w) (A0 := A) (n := 0) (c0 := 0) (cs := []) (us := us) (b' := b) (m := ys.length) (cap' := gg.cap) (fun _ => ⟨rfl, rfl⟩) rfl (fun j u h => by cases h) (fun k u hk => by rw [add_lit, Nat.zero_add]; exact hrow.cell k u hk) hul (by omega) (by omega)
    simp only [Nat.zero_add, List.nil_append] at hr hrow'
    have hbd : AV.bds O.length ys := AV.VC_bd I ys us hVC
    obtain ⟨I', E⟩ := I.push (w' := w') (.vbuf e ys) { blk := some w.heap.size, cap := cap } hgr.os hgr.tape hgr.output hgr.size (fun b hb => hgr.block b hb (by simp)) (fun b h => by cases h; exact ⟨Nat.le_refl _, hlt⟩) (AV.bds_mono (Nat.le_succ _) _ hbd)
      (fun E => ⟨w.heap.size, us, rfl, by rw [hul]; exact hrow', AV.VC_evo I E (by simp [I.len]) ys us hVC⟩)
    refine ⟨_, w', F, _, .inl (append_run (by rw [hA, hxv]; exact hr)), own_vbuf (e := e) (i := O.length) (xs := ys) (b := w.heap.size) (cap := cap) (by rw [← I.len]; simp) (by simp), I', E⟩
theorem opv_append_v {s x : Operand} {t e by_ i j : Nat} {xs ys : List AV} {z : List AV} [S : Slc P t e 1] [Z : Ze P e z] [B : Byt P e by_] (hs : evT T s = .own i 0) (hOi : O[i]? = some (.vbuf e xs)) (hx : evT T x = .own j 0) (hO : O[j]? = some (.vbuf e ys)) (hne : 0 < ys.length) (hm : xs.length + ys.length ≤ 1073741824) (hz : Nat.beq z.length 1 = true := by rfl) (hby : Nat.ble by_ 4096 = true := by rfl) :
    OpV P ro ⟨dst, .call { callee := .builtin .append, args := #[s, x], argTypes := #[t, t] }, ty, pos, af, g⟩ T O (.own O.length 0) (O.set i .dead ++ [.vbuf e (xs ++ ys)]) :=
  OpV.of_run (fun c h => by cases h) fun w F γ a I H => by
    obtain ⟨g1, b1, us1, hg1, hb1, hrow1, hVC1, hsv, hul1⟩ := vbuf_val I hOi (H.at (x := s) (by simp [Op.operands, Call.operands]) hs)
    obtain ⟨g2, b2, us2, hg2, hb2, hrow2, hVC2, hxv, hul2⟩ := vbuf_val I hO (H.at (x := x) (by simp [Op.operands, Call.operands]) hx)
    have hbd1 : AV.bds O.length xs := AV.VC_bd I xs us1 hVC1
    have hbd2 : AV.bds O.length ys := AV.VC_bd I ys us2 hVC2
    have hbd : AObj.bd (O.length + 1) (.vbuf e (xs ++ ys)) := AV.bds_mono (Nat.le_succ _) _ (bds_append _ _ hbd1 hbd2)
    have hiγ : i < γ.length := (List.getElem?_eq_some_iff.1 hg1).1
    have fin : ∀ (b cap : Nat) (w' : World), (b1 = b ∨ w.heap.size ≤ b) → b < w'.heap.size → (Builtin.append_ #[t, t] ty #[.slice (some ⟨b1, 0, none⟩) xs.length g1.cap, .slice (some ⟨b2, 0, none⟩) ys.length g2.cap]).run P w = .ok (.slice (some ⟨b, 0, none⟩) (xs.length + ys.length) cap) w' →
        Row w' b e 1 cap (us1 ++ us2).length (us1 ++ us2) → w.grownBy w' (some b1) →
        ∃ u w' F' γ', ((execOp a.eval ⟨dst, .call { callee := .builtin .append, args := #[s, x], argTypes := #[t, t] }, ty, pos, af, g⟩).run P w = .ok (.value u) w' ∨ ((execOp a.eval ⟨dst, .call { callee := .builtin .append, args := #[s, x], argTypes := #[t, t] }, ty, pos, af, g⟩).run P w = .ok .skip w' ∧ u = undef)) ∧
          AV.V w' F' γ' (O.set i .dead ++ [.vbuf e (xs ++ ys)]) (.own O.length 0) u ∧ Inv w' F' γ' (O.set i .dead ++ [.vbuf e (xs ++ ys)]) ∧ Evo w F γ O w' F' γ' (O.set i .dead ++ [.vbuf e (xs ++ ys)]) := by
      intro b cap w' hb hblt hr hrow hgr
      obtain ⟨I', E⟩ := inv_move I (w' := w') (o' := .vbuf e (xs ++ ys)) (g' := { blk := some b, cap := cap }) hOi hg1 hgr.os hgr.tape hgr.output hgr.size (fun k hk hne => hgr.block k hk (fun h => hne (by rw [hb1]; exact h.symm)))
        (fun b' h => by cases h; exact ⟨hb.imp (fun h => by rw [hb1, h]) (fun h => h), hblt⟩) hbd
        (fun E => ⟨b, us1 ++ us2, rfl, hrow, AV.VC_evo I E (by have := I.len; simp [this]) _ _ (VC_append _ _ _ _ hVC1 hVC2)⟩)
      have hv := own_vbuf (e := e) (w := w') (F := F) (γ := γ.set i { blk := none } ++ [{ blk := some b, cap := cap }]) (O := O.set i .dead ++ [.vbuf e (xs ++ ys)]) (i := O.length) (xs := xs ++ ys) (b := b) (cap := cap) (by rw [← I.len]; simp) (by simp)
      rw [List.length_append] at hv
      exact ⟨_, w', F, _, .inl (append_run (by rw [hsv, hxv]; exact hr)), hv, I', E⟩
    have hnews : ∀ (k : Nat) (u : Value), us2[k]? = some u → w.cell? ((⟨b2, 0, none⟩ : Addr).add k) = some u := fun k u hk => by rw [add_lit, Nat.zero_add]; exact hrow2.cell k u hk
    by_cases hroom : xs.length + ys.length ≤ g1.cap
    · obtain ⟨hcl, hnc, hcm, cur, hh, hcs0, htake⟩ := hrow1
      obtain ⟨ie, hi, hie⟩ := Option.map_eq_some_iff.1 S.info
      have hr := run_append_room (P := P) w t ty e ie S.und hi b1 xs.length g1.cap cur hh ⟨b2, 0, none⟩ ys.length g2.cap us2 (by rw [hie]; omega) hnews (fun u hu => VC_one _ _ hVC2 u hu) hroom (by rw [hie]; omega)
      rw [hie] at hr
      have hsz : (w.setRow b1 (cur.toList.take (xs.length * 1) ++ us2 ++ cur.toList.drop (xs.length * 1 + us2.length)).toArray).heap.size = w.heap.size := by simp
      refine fin b1 g1.cap _ (.inl rfl) (by rw [hsz]; exact (I.blks i g1 b1 hg1 hb1).1) hr ⟨by simp, by rw [List.length_append]; omega, hcm, _, setRow_heap w b1 cur _ e _ hh, ?_, ?_⟩
        ⟨rfl, rfl, rfl, by simp, fun k _ hk => setRow_other w b1 k _ (fun e' => hk (by rw [e']))⟩
      · simp only [List.size_toArray, List.length_append, List.length_take, List.length_drop, Array.length_toList]
        omega
      · rw [Nat.mul_one] at htake
        rw [List.length_append, Nat.mul_one, Nat.mul_one, ← hul1, htake, ← List.length_append]
        exact List.take_left
    · obtain ⟨cap', w', hr, hrow, hgr, hlt⟩ := vbuf_grow (P := P) (t := t) (ty := ty) hz hby (w := w) (A0 := some ⟨b1, 0, none⟩) (n := xs.length) (c0 := g1.cap) (cs := us1) (us := us2) (b' := b2) (m := ys.length) (cap' := g2.cap) (fun h => by cases h) hul1 (fun k u hk => by
        simp only [Option.bind_some, add_lit, Nat.zero_add]; exact hrow1.cell k u hk) hnews hul2 hm (by omega)
      exact fin w.heap.size cap' w' (.inr (Nat.le_refl _)) hlt hr (by rw [List.length_append, hul1, hul2]; exact hrow) ⟨hgr.os, hgr.tape, hgr.output, hgr.size, fun k hk _ => hgr.block k hk (by simp)⟩
theorem opv_index_v {x ix : Operand} {t e i k : Nat} {xs : List AV} [S : Slc P t e 1] (hx : evT T x = .own i 0) (hO : O[i]? = some (.vbuf e xs)) (hi : evT T ix = .d (.int .i64 k)) (hl : k < xs.length) :
    OpV P ro ⟨dst, .indexAddr t x ix, ty, pos, af, g⟩ T O (.ref i k) O :=
  OpV.of_same (fun c h => by cases h) fun w F γ a I H => by
    obtain ⟨gg, b, us, hg, hb, hrow, hVC, hxv, hul⟩ := vbuf_val I hO (H.at (x := x) (by simp [Op.operands]) hx)
    have hiv : a.eval ix = .int .i64 (k : Nat) := H.at (x := ix) (by simp [Op.operands]) hi
    refine ⟨.pointer (some ⟨b, k, none⟩), ?_, rfl, gg, _, hg, hO, b, hb, rfl⟩
    simp only [execOp, hxv, hiv]
    simp [Instr.indexAt, asIntOf, run_underlying S.und, hl, run_size_of S.info, add_lit]
theorem opv_load_v {x : Operand} {t i k e : Nat} {xs : List AV} {v : AV} [S : Sz P t 1 false] (hx : evT T x = .ref i k) (hO : O[i]? = some (.vbuf e xs)) (hv : xs[k]? = some v) : OpV P ro ⟨dst, .load t x, ty, pos, af, g⟩ T O v O :=
  OpV.of_same (fun c h => by cases h) fun w F γ a I H => by
    have h1 : AV.V w F γ O (.ref i k) (a.eval x) := H.at (x := x) (by simp [Op.operands]) hx
    obtain ⟨_, gg, o, hg, ho, hm⟩ := h1
    rw [hO] at ho; cases ho
    obtain ⟨b, hb, hp⟩ := hm
    obtain ⟨b', us, h1, hrow, hVC⟩ := I.ok i _ gg hO hg
    rw [hb] at h1; cases h1
    obtain ⟨u, hu, hV⟩ := VC_at xs us k v hVC hv
    refine ⟨u, ?_, hV⟩
    have hc : ∀ (j : Nat) (u' : Value), [u][j]? = some u' → w.cell? ((⟨b, k, none⟩ : Addr).add j) = some u' := fun j u' hj => by
      cases j with
      | zero => cases hj; rw [add_lit, Nat.add_zero]; exact hrow.cell k u hu
      | succ j => simp at hj
    have := run_loadVar (P := P) S ⟨b, k, none⟩ [u] rfl (fun _ => rfl) hc
    simp only [execOp, Instr.loadAt, hp, Instr.sureAddr]
    simp [this]
/-- A slice of slices that is handed out is data from there on, and all objects are. -/
def handed (T : Nat → AV) (s : Nat) (ys : List D) : Nat → AV := upd (fun s => (T s).kill 0) s (.d (.list ys))
theorem Runs.shutV {c : Code} {Q : Exit → (Nat → AV) → List AObj → Prop} (s : Nat) {i et : Nat} {xs : List AV} {ys : List D} (hs : T s = .own i 0) (hO : O[i]? = some (.vbuf et xs)) (hK : K.O = [])
    (hrows : ∀ (j : Nat) (x : AV), xs[j]? = some x → ∃ id ver e sz ds, x = .own id ver ∧ O[id]? = some (.buf e sz ds ver) ∧ ys[j]? = some (.list ds)) (hl : ys.length = xs.length)
    (h : Runs P ro N K c (handed T s ys) [] Q) : Runs P ro N K c T O Q := fun a w hat => by
  obtain ⟨F, γ, I, hT, hsz, hdf, E0⟩ := hat
  have h1 := hT s
  rw [hs] at h1
  obtain ⟨gg, b, us, hg, hb, hrow, hVC, hv, hul⟩ := vbuf_val I hO h1
  let F1 : Nat → Prop := fun b => F b ∨ ∃ (i : Nat) (g : GO), γ[i]? = some g ∧ g.blk = some b
  have I1 : Inv w F1 [] [] := ⟨rfl, fun i o g h => by simp at h, fun i o h => by simp at h, fun i g b h => by simp at h, fun i j g g' b h => by simp at h, fun b hb => hb.elim (I.fr b) fun ⟨i, g, h1, h2⟩ => (I.blks i g b h1 h2).1⟩
  have E1 : Evo K.w K.F K.γ K.O w F1 [] [] := by
    refine ⟨E0.os, E0.tape, E0.output, E0.size, E0.old, fun i g b h => by simp at h, fun b hb => .inl (E0.frm b hb), fun b hb hf => ?_, fun i o o' g g' h => by rw [hK] at h; simp at h, by rw [hK]; exact Nat.le_refl _⟩
    rcases hf with hf | ⟨j, g1, e1, e2⟩
    · exact E0.frn b hb hf
    · rcases E0.mine j g1 b e1 e2 with h | h
      · exact .inr h
      · omega
  have D1 : Df K w F1 [] a.defers := by
    obtain ⟨bs, p1, p2, p3⟩ := hdf
    refine ⟨bs, p1, p2, fun b hb => ?_⟩
    obtain ⟨k1, k2, k3, k4, k5⟩ := p3 b hb
    exact ⟨k1, k2, k3, fun i g h => by simp at h, fun hf => hf.elim k5 fun ⟨i, g, e1, e2⟩ => k4 i g e1 e2⟩
  refine h a w ⟨F1, [], I1, fun s' => ?_, hsz, D1, E1⟩
  unfold handed
  simp only [upd]
  cases hbq : Nat.beq s' s with
  | false =>
    have := AV.V_kill (n := 0) (hT s')
    simp only [List.take_zero] at this
    exact AV.V_mono (fun b hb => .inl hb) (fun _ _ => rfl) Emb.refl _ _ this
  | true =>
    have := Nat.eq_of_beq_eq_true hbq
    subst this
    simp only [cond_true, AV.V]
    rw [hv]
    refine ⟨_, _, 1, by rw [hl], by rw [hl, ← hul]; exact hrow.2.1, fun _ => ⟨_, rfl, rfl, .inr ⟨i, gg, hg, hb⟩⟩, RE_of ys 0 fun k y hy => ?_⟩
    have hk : k < xs.length := by have := (List.getElem?_eq_some_iff.1 hy).1; omega
    obtain ⟨id, ver, e, sz, ds, q1, q2, q3⟩ := hrows k _ (List.getElem?_eq_getElem hk)
    rw [hy] at q3; cases q3
    obtain ⟨u, hu, hV⟩ := VC_at xs us k _ hVC (List.getElem?_eq_getElem hk)
    rw [q1] at hV
    refine ⟨u, own_data I q2 hV F1 (fun b h => .inl h) fun g b hg hb => .inr ⟨id, g, hg, hb⟩, by rw [cells_one hV.1]; rfl, fun j v hj => ?_⟩
    rw [cells_one hV.1] at hj
    cases j with
    | zero =>
      simp at hj; subst hj
      simp only [Option.bind_some, add_lit, Nat.zero_add, Nat.mul_one, Nat.add_zero]
      exact hrow.cell k u hu
    | succ j => simp at hj
end

/-! Tables. -/
def bools (r : List Bool) : List D := r.map .bool
def rowsD (M : List (List Bool)) : List D := M.map fun r => .list (bools r)
def encR (M : List (List Bool)) : D := .agg [.list (rowsD M)]
theorem bools_len (r : List Bool) : (bools r).length = r.length := by simp [bools]
theorem rowsD_len (M : List (List Bool)) : (rowsD M).length = M.length := by simp [rowsD]
theorem bools_rep (n : Nat) : List.replicate n (D.bool false) = bools (List.replicate n false) := by simp [bools]
theorem bools_set (r : List Bool) (i : Nat) (b : Bool) : (bools r).set i (.bool b) = bools (r.set i b) := by simp [bools, List.map_set]
def ownsT (a : Nat) : List AV := (List.range a).map fun j => .own (3 * j) 1
def tobj (e et : Nat) (M : List (List Bool)) (i : Nat) : AObj :=
  if i % 3 = 0 then .buf e 1 (bools (M.getD (i / 3) [])) 1 else if i % 3 = 1 then .vbuf et [.own (i - 1) 1] else if i + 1 = 3 * M.length then .vbuf et (ownsT M.length) else .dead
def tobjs (e et : Nat) (M : List (List Bool)) : List AObj := (List.range (3 * M.length)).map (tobj e et M)
theorem tobjs_len (e et : Nat) (M : List (List Bool)) : (tobjs e et M).length = 3 * M.length := by simp [tobjs]
theorem tobjs_get {e et : Nat} {M : List (List Bool)} {i : Nat} (h : i < 3 * M.length) : (tobjs e et M)[i]? = some (tobj e et M i) := by simp [tobjs, h]
theorem tobjs_row {e et : Nat} {M : List (List Bool)} {j : Nat} (h : j < M.length) : (tobjs e et M)[3 * j]? = some (.buf e 1 (bools M[j]) 1) := by
  rw [tobjs_get (by omega)]
  unfold tobj
  rw [if_pos (by omega), show 3 * j / 3 = j by omega]
  simp [h]
theorem tobjs_last {e et : Nat} {M : List (List Bool)} (h : 0 < M.length) : (tobjs e et M)[3 * M.length - 1]? = some (.vbuf et (ownsT M.length)) := by
  rw [tobjs_get (by omega)]
  unfold tobj
  rw [if_neg (by omega), if_neg (by omega), if_pos (by omega)]
theorem tobjs_set {e et : Nat} {M : List (List Bool)} {j : Nat} {r : List Bool} (h : j < M.length) : (tobjs e et M).set (3 * j) (.buf e 1 (bools r) 1) = tobjs e et (M.set j r) := by
  apply List.ext_getElem?
  intro i
  rw [List.getElem?_set, tobjs_len]
  by_cases hi : i < 3 * M.length
  · rw [tobjs_get (M := M.set j r) (by simpa using hi)]
    by_cases hij : 3 * j = i
    · subst hij
      rw [if_pos rfl, if_pos hi]
      unfold tobj
      rw [if_pos (by omega), show 3 * j / 3 = j by omega]
      simp [h]
    · rw [if_neg hij, tobjs_get hi]
      unfold tobj
      simp only [List.length_set]
      by_cases h3 : i % 3 = 0
      · rw [if_pos h3, if_pos h3]
        have hne : j ≠ i / 3 := by omega
        simp [List.getElem?_set, hne]
      · rw [if_neg h3, if_neg h3]
  · have h2 : ¬ i < 3 * (M.set j r).length := by simpa using hi
    rw [List.getElem?_eq_none (by rw [tobjs_len]; omega)]
    have : ¬ 3 * j = i := by omega
    rw [if_neg this, List.getElem?_eq_none (by rw [tobjs_len]; omega)]
theorem tobjs_snoc {e et : Nat} {M : List (List Bool)} {r : List Bool} : tobjs e et (M ++ [r]) = ((tobjs e et M ++ [AObj.buf e 1 (bools r) 1] ++ [AObj.vbuf et [.own (3 * M.length) 1]]).set (3 * M.length - 1) (if M.length = 0 then .buf e 1 (bools r) 1 else .dead)) ++ [.vbuf et (ownsT (M.length + 1))] := by
  apply List.ext_getElem?
  intro i
  have hl : (tobjs e et M ++ [AObj.buf e 1 (bools r) 1] ++ [AObj.vbuf et [.own (3 * M.length) 1]]).length = 3 * M.length + 2 := by simp [tobjs_len]
  by_cases hi : i < 3 * (M.length + 1)
  · rw [tobjs_get (by simpa using hi)]
    by_cases h2 : i < 3 * M.length + 2
    · rw [List.getElem?_append_left (by rw [List.length_set, hl]; exact h2), List.getElem?_set, hl]
      by_cases hz : M.length = 0
      · have hM : M = [] := List.eq_nil_of_length_eq_zero hz
        subst hM
        simp only [List.length_nil, Nat.mul_zero, Nat.zero_sub, if_true]
        have : i = 0 ∨ i = 1 := by simp at h2; omega
        rcases this with rfl | rfl <;> simp [tobj, tobjs]
      · rw [if_neg hz]
        by_cases hi1 : 3 * M.length - 1 = i
        · rw [if_pos hi1, if_pos (by omega)]
          unfold tobj
          rw [if_neg (by omega), if_neg (by omega), if_neg (by simp; omega)]
        · rw [if_neg hi1]
          by_cases h3 : i < 3 * M.length
          · rw [List.append_assoc, List.getElem?_append_left (by rw [tobjs_len]; exact h3), tobjs_get h3]
            unfold tobj
            by_cases m0 : i % 3 = 0
            · rw [if_pos m0, if_pos m0]
              have : i / 3 < M.length := by omega
              simp [List.getElem?_append_left this]
            · rw [if_neg m0, if_neg m0]
              by_cases m1 : i % 3 = 1
              · rw [if_pos m1, if_pos m1]
              · rw [if_neg m1, if_neg m1, if_neg (by simp; omega), if_neg (by omega)]
          · have : i = 3 * M.length ∨ i = 3 * M.length + 1 := by omega
            rcases this with rfl | rfl
            · rw [List.append_assoc, List.getElem?_append_right (by rw [tobjs_len]; omega), tobjs_len, Nat.sub_self]
              unfold tobj
              rw [if_pos (by omega), show 3 * M.length / 3 = M.length by omega]
              simp
            · rw [List.append_assoc, List.getElem?_append_right (by rw [tobjs_len]; omega), tobjs_len, show 3 * M.length + 1 - 3 * M.length = 1 by omega]
              unfold tobj
              rw [if_neg (by omega), if_pos (by omega)]
              simp
    · have : i = 3 * M.length + 2 := by omega
      subst this
      rw [List.getElem?_append_right (by rw [List.length_set, hl]; omega), List.length_set, hl, Nat.sub_self]
      unfold tobj
      rw [if_neg (by omega), if_neg (by omega), if_pos (by simp; omega)]
      simp
  · rw [List.getElem?_eq_none (by rw [tobjs_len]; simp; omega), List.getElem?_eq_none (by rw [List.length_append, List.length_set, hl]; simp; omega)]
theorem ownsT_succ (a : Nat) : ownsT (a + 1) = ownsT a ++ [.own (3 * a) 1] := by simp [ownsT, List.range_succ]
theorem ownsT_len (a : Nat) : (ownsT a).length = a := by simp [ownsT]
theorem ownsT_get {a j : Nat} (h : j < a) : (ownsT a)[j]? = some (.own (3 * j) 1) := by simp [ownsT, h]
end Go.Proofs.Ytljmkgjemmoegaa.AM
