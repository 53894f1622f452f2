/- Slices that hold slices of the call's own. -/
import Derived.Test.YtohncglpjiplaaaF1
namespace Go.Proofs.Ytohncglpjiplaaa.AM
open Go
set_option linter.unusedVariables false
set_option linter.unusedSimpArgs false
section
variable {w w' : World} {F F' : Nat → Prop} {γ γ' : List GO} {O O' : List AObj}
/-- An object goes on as another one, that stands last. -/
theorem inv_move (I : Inv w F γ O) {i : Nat} {o o' : AObj} {g g' : GO} (hi : O[i]? = some o) (hgi : γ[i]? = some g)
    (hos : w'.os = w.os) (ht : w'.tape = w.tape) (hout : w'.output = w.output) (hs : w.heap.size ≤ w'.heap.size)
    (hold : ∀ b, b < w.heap.size → g.blk ≠ some b → w'.heap[b]? = w.heap[b]?)
    (hg : ∀ b, g'.blk = some b → (g.blk = some b ∨ w.heap.size ≤ b) ∧ b < w'.heap.size) (hbd : o'.bd (O.length + 1))
    (hok : Evo w F γ O w' F (γ.set i { blk := none } ++ [g']) (O.set i .dead ++ [o']) → OkObj w' F (γ.set i { blk := none } ++ [g']) (O.set i .dead ++ [o']) o' g') :
    Inv w' F (γ.set i { blk := none } ++ [g']) (O.set i .dead ++ [o']) ∧ Evo w F γ O w' F (γ.set i { blk := none } ++ [g']) (O.set i .dead ++ [o']) := by
  obtain ⟨I1, E1⟩ := I.upd (w' := w') (F' := F) (o' := .dead) (g' := { blk := none }) hi hgi hos ht hout hs hold (fun b h => by cases h) (fun b h => by cases h) (fun _ h => h) (fun _ h => .inl h) trivial trivial (fun E => rfl)
  have hiγ : i < γ.length := (List.getElem?_eq_some_iff.1 hgi).1
  have hlen : (γ.set i ({ blk := none } : GO)).length = (O.set i AObj.dead).length := I1.len
  have hol : (O.set i AObj.dead).length = O.length := by simp
  have E : Evo w F γ O w' F (γ.set i { blk := none } ++ [g']) (O.set i .dead ++ [o']) := by
    refine ⟨hos, ht, hout, hs, E1.old, fun j g1 b e1 e2 => ?_, E1.frm, E1.frn, fun j o1 o2 g1 g2 e1 e2 e3 e4 => ?_, by simp⟩
    · rcases getElem?_snoc _ g' j e1 with ⟨e, _⟩ | ⟨_, rfl⟩
      · exact E1.mine j g1 b e e2
      · exact (hg b e2).1.imp (fun h => ⟨i, g, hgi, h⟩) (fun h => h)
    · have hj : j < O.length := (List.getElem?_eq_some_iff.1 e1).1
      have hjγ : j < γ.length := (List.getElem?_eq_some_iff.1 e2).1
      rw [List.getElem?_append_left (by simpa using hj)] at e3
      rw [List.getElem?_append_left (by simpa using hjγ)] at e4
      exact E1.stab j o1 o2 g1 g2 e1 e2 e3 e4
  have hll : (γ.set i ({ blk := none } : GO) ++ [g']).length = (O.set i AObj.dead ++ [o']).length := by rw [List.length_append, List.length_append, hlen]; rfl
  have fresh : ∀ (j : Nat) (g1 : GO) (b : Nat), (γ.set i ({ blk := none } : GO))[j]? = some g1 → g1.blk = some b → g'.blk = some b → False := by
    intro j g1 b e1 e2 e3
    rcases getElem?_set' γ i j { blk := none } e1 with ⟨hne, e⟩ | ⟨_, rfl, _⟩
    · rcases (hg b e3).1 with h | h
      · exact hne (I.inj j i g1 g b e hgi e2 h).symm
      · have := (I.blks j g1 b e e2).1; omega
    · cases e2
  refine ⟨⟨hll, fun j o1 g1 ho hg1 => ?_, fun j o1 ho => ?_, fun j g1 b hg1 hb => ?_, fun j k g1 g2 b e1 e2 e3 e4 => ?_, I1.fr⟩, E⟩
  · rcases getElem?_snoc _ o' j ho with ⟨e, hj⟩ | ⟨hj, rfl⟩
    · rw [List.getElem?_append_left (by omega)] at hg1
      exact (I1.ok j o1 g1 e hg1).mono (fun _ h => h) (fun _ _ => rfl) (Emb.app _ _) (fun _ _ => rfl)
    · rw [List.getElem?_append_right (by omega), show j - (γ.set i ({ blk := none } : GO)).length = 0 by omega] at hg1
      cases hg1
      exact hok E
  · rcases getElem?_snoc _ o' j ho with ⟨e, hj⟩ | ⟨hj, rfl⟩
    · exact I1.bd j o1 e
    · rw [hj, hol]; exact hbd
  · rcases getElem?_snoc _ g' j hg1 with ⟨e, _⟩ | ⟨_, rfl⟩
    · exact I1.blks j g1 b e hb
    · refine ⟨(hg b hb).2, fun hF => ?_⟩
      rcases (hg b hb).1 with h | h
      · exact (I.blks i g b hgi h).2 hF
      · have := I.fr b hF; omega
  · rcases getElem?_snoc _ g' j e1 with ⟨a1, _⟩ | ⟨a1, q1⟩ <;> rcases getElem?_snoc _ g' k e2 with ⟨a2, _⟩ | ⟨a2, q2⟩
    · exact I1.inj j k g1 g2 b a1 a2 e3 e4
    · exact (fresh j g1 b a1 e3 (by rw [← q2]; exact e4)).elim
    · exact (fresh k g2 b a2 e4 (by rw [← q1]; exact e3)).elim
    · omega
end
section
variable {P : Program} {ro : Option Nat} {N : Nat} {K : Org} {T : Nat → AV} {O : List AObj} {dst : Option Tmp} {ty : TypeId} {pos : String} {af : Array Edge} {g : Option (Nat × Bool)}
theorem vbuf_val {w : World} {F : Nat → Prop} {γ : List GO} (I : Inv w F γ O) {i e : Nat} {xs : List AV} {v : Value} (hO : O[i]? = some (.vbuf e xs)) (h : AV.V w F γ O (.own i 0) v) :
    ∃ (gg : GO) (b : Nat) (us : List Value), γ[i]? = some gg ∧ gg.blk = some b ∧ Row w b e 1 gg.cap us.length us ∧ AV.VC w F γ O xs us ∧ v = .slice (some ⟨b, 0, none⟩) xs.length gg.cap ∧ us.length = xs.length := by
  obtain ⟨_, gg, o, hg, ho, hm⟩ := h
  rw [hO] at ho; cases ho
  obtain ⟨b, us, h1, h2, h3⟩ := I.ok i _ gg hO hg
  refine ⟨gg, b, us, hg, h1, h2, h3, ?_, VC_length xs us h3⟩
  have := hm.2 rfl
  rw [this]
  simp [GO.slice, h1]
theorem own_vbuf {γ : List GO} {w : World} {F : Nat → Prop} {i e : Nat} {xs : List AV} {b cap : Nat} (hg : γ[i]? = some { blk := some b, cap := cap }) (hO : O[i]? = some (.vbuf e xs)) : AV.V w F γ O (.own i 0) (.slice (some ⟨b, 0, none⟩) xs.length cap) :=
  ⟨rfl, _, _, hg, hO, Nat.le_refl _, fun _ => by simp [GO.slice]⟩

/-- A slice of one. -/
theorem opv_bs_v {t e : TypeId} {x : Operand} {v : AV} {z : List AV} [S : Slc P t e 1] [Z : Ze P e z] (hx : evT T x = v) (hv : v.one = true) (hbd : v.bd O.length) :
    OpV P ro ⟨dst, .buildSlice t 1 #[(0, x)], ty, pos, af, g⟩ T O (.own O.length 0) (O ++ [.vbuf e [v]]) :=
  OpV.of_run (fun c h => by cases h) fun w F γ a I H => by
    obtain ⟨zv, hz, he, ho⟩ := Z.h
    obtain ⟨ie, hi, hz⟩ := Option.bind_eq_some_iff.1 hz
    have hu : v.V w F γ O (a.eval x) := H.at (x := x) (by simp [Op.operands]) hx
    have hone : (a.eval x).oneCell' = true := AV.V_one hv hu
    have hcell := cells_one hone
    have hrun : (execOp a.eval ⟨dst, .buildSlice t 1 #[(0, x)], ty, pos, af, g⟩).run P w = .ok (.value (.slice (some ⟨w.heap.size, 0, none⟩) 1 1)) (w.alloc (.cells #[a.eval x] e)) := by
      have e1' : Instr.fill (fun i => some (i * 1, 1)) ((Array.range (1 * 1)).map ((if 1 * 1 = 0 then #[] else zv.cells)[· % (if 1 * 1 = 0 then #[] else zv.cells).size]!)) [(0, a.eval x)] = some #[a.eval x] := by
        simp only [Instr.fill, hcell]
        simp
        apply Array.ext
        · simp
        · intro i h1 h2
          simp at h1 h2
          subst h2
          simp
      simp only [execOp, Instr.buildSlice, Sem.run_bind, run_underlying S.und, Result.andThen_ok, run_size_of S.info]
      rw [if_neg (by omega)]
      simp only [show (1 * 1 = 0) = False by simp, if_false] at e1' ⊢
      simp only [Sem.run_bind, zeroValue, typeInfo, run_program, Result.andThen_ok, hi, hz, Sem.run_pure]
      simp only [List.map_toArray, List.map_cons, List.map_nil]
      rw [e1']
      simp [newRow]
    obtain ⟨I', E⟩ := I.push (w' := w.alloc (.cells #[a.eval x] e)) (.vbuf e [v]) { blk := some w.heap.size, cap := 1 } rfl rfl rfl (by simp) (fun b hb => heap_alloc_old w _ hb) (fun b h => by cases h; simp) ⟨AV.bd_mono (Nat.le_succ _) _ hbd, trivial⟩
      (fun E => ⟨w.heap.size, [a.eval x], rfl, ⟨rfl, Nat.le_refl _, by show (1 : Nat) ≤ maxLen; unfold maxLen; omega, #[a.eval x], heap_alloc_new w _, by simp, by simp⟩, _, _, rfl, hv, AV.V_evo I E (by simp [I.len]) _ _ hu, rfl⟩)
    exact ⟨_, _, F, _, .inl hrun, own_vbuf (e := e) (i := O.length) (xs := [v]) (b := w.heap.size) (cap := 1) (by rw [← I.len]; simp) (by simp), I', E⟩
theorem vbuf_grow {t e by_ : Nat} {z : List AV} [S : Slc P t e 1] [Z : Ze P e z] [B : Byt P e by_] (hz : Nat.beq z.length 1 = true) (hby : Nat.ble by_ 4096 = true) {w : World} {A0 : Option Addr} {n c0 m cap' b' : Nat} {cs us : List Value}
    (hA0 : A0 = none → n = 0 ∧ c0 = 0) (hcs : cs.length = n) (hold : ∀ (j : Nat) (u : Value), cs[j]? = some u → (A0.bind fun ad => w.cell? (ad.add j)) = some u)
    (hrow : ∀ (j : Nat) (u : Value), us[j]? = some u → w.cell? ((⟨b', 0, none⟩ : Addr).add j) = some u) (hl : us.length = m) (hm : n + m ≤ 1073741824) (hg : c0 < n + m) :
    ∃ cap w', (Builtin.append_ #[t, t] ty #[.slice A0 n c0, .slice (some ⟨b', 0, none⟩) m cap']).run P w = .ok (.slice (some ⟨w.heap.size, 0, none⟩) (n + m) cap) w' ∧
      Row w' w.heap.size e 1 cap (n + m) (cs ++ us) ∧ w.grownBy w' none ∧ w.heap.size < w'.heap.size := by
  obtain ⟨cap, w', h1, h2, h3, h4⟩ := app_grow (P := P) (w := w) (t := t) (ty := ty) hz (A0 := A0) (n := n) (c0 := c0) (cs := cs) hA0 (by omega) hold (ad := ⟨b', 0, none⟩) (m := m) (c := cap') (news := us) (by omega) hrow (bytes_of hm hby) (maxLen_of hm) hg
  exact ⟨cap, w', h1, Row.of_owns h2, h3, h4⟩
theorem opv_append_v0 {s x : Operand} {t e by_ j : Nat} {ys : List AV} {z : List AV} [S : Slc P t e 1] [Z : Ze P e z] [B : Byt P e by_] (hs : evT T s = .nil0) (hx : evT T x = .own j 0) (hO : O[j]? = some (.vbuf e ys)) (hne : 0 < ys.length) (hm : ys.length ≤ 1073741824) (hz : Nat.beq z.length 1 = true := by rfl) (hby : Nat.ble by_ 4096 = true := by rfl) :
    OpV P ro ⟨dst, .call { callee := .builtin .append, args := #[s, x], argTypes := #[t, t] }, ty, pos, af, g⟩ T O (.own O.length 0) (O ++ [.vbuf e ys]) :=
  OpV.of_run (fun c h => by cases h) fun w F γ a I H => by
    obtain ⟨A, hA⟩ : ∃ A, a.eval s = .slice A 0 0 := H.at (x := s) (by simp [Op.operands, Call.operands]) hs
    obtain ⟨gg, b, us, hg, hb, hrow, hVC, hxv, hul⟩ := vbuf_val I hO (H.at (x := x) (by simp [Op.operands, Call.operands]) hx)
    obtain ⟨cap, w', hr, hrow', hgr, hlt⟩ := vbuf_grow (P := P) (t := t) (ty := ty) hz hby (w := w) (A0 := A) (n := 0) (c0 := 0) (cs := []) (us := us) (b' := b) (m := ys.length) (cap' := gg.cap) (fun _ => ⟨rfl, rfl⟩) rfl (fun j u h => by cases h) (fun k u hk => by rw [add_lit, Nat.zero_add]; exact hrow.cell k u hk) hul (by omega) (by omega)
    simp only [Nat.zero_add, List.nil_append] at hr hrow'
    have hbd : AV.bds O.length ys := AV.VC_bd I ys us hVC
    obtain ⟨I', E⟩ := I.push (w' := w') (.vbuf e ys) { blk := some w.heap.size, cap := cap } hgr.os hgr.tape hgr.output hgr.size (fun b hb => hgr.block b hb (by simp)) (fun b h => by cases h; exact ⟨Nat.le_refl _, hlt⟩) (AV.bds_mono (Nat.le_succ _) _ hbd)
      (fun E => ⟨w.heap.size, us, rfl, by rw [hul]; exact hrow', AV.VC_evo I E (by simp [I.len]) ys us hVC⟩)
    refine ⟨_, w', F, _, .inl (append_run (by rw [hA, hxv]; exact hr)), own_vbuf (e := e) (i := O.length) (xs := ys) (b := w.heap.size) (cap := cap) (by rw [← I.len]; simp) (by simp), I', E⟩
theorem opv_append_v {s x : Operand} {t e by_ i j : Nat} {xs ys : List AV} {z : List AV} [S : Slc P t e 1] [Z : Ze P e z] [B : Byt P e by_] (hs : evT T s = .own i 0) (hOi : O[i]? = some (.vbuf e xs)) (hx : evT T x = .own j 0) (hO : O[j]? = some (.vbuf e ys)) (hne : 0 < ys.length) (hm : xs.length + ys.length ≤ 1073741824) (hz : Nat.beq z.length 1 = true := by rfl) (hby : Nat.ble by_ 4096 = true := by rfl) :
    OpV P ro ⟨dst, .call { callee := .builtin .append, args := #[s, x], argTypes := #[t, t] }, ty, pos, af, g⟩ T O (.own O.length 0) (O.set i .dead ++ [.vbuf e (xs ++ ys)]) :=
  OpV.of_run (fun c h => by cases h) fun w F γ a I H => by
    obtain ⟨g1, b1, us1, hg1, hb1, hrow1, hVC1, hsv, hul1⟩ := vbuf_val I hOi (H.at (x := s) (by simp [Op.operands, Call.operands]) hs)
    obtain ⟨g2, b2, us2, hg2, hb2, hrow2, hVC2, hxv, hul2⟩ := vbuf_val I hO (H.at (x := x) (by simp [Op.operands, Call.operands]) hx)
    have hbd1 : AV.bds O.length xs := AV.VC_bd I xs us1 hVC1
    have hbd2 : AV.bds O.length ys := AV.VC_bd I ys us2 hVC2
    have hbd : AObj.bd (O.length + 1) (.vbuf e (xs ++ ys)) := AV.bds_mono (Nat.le_succ _) _ (bds_append _ _ hbd1 hbd2)
    have hiγ : i < γ.length := (List.getElem?_eq_some_iff.1 hg1).1
    have fin : ∀ (b cap : Nat) (w' : World), (b1 = b ∨ w.heap.size ≤ b) → b < w'.heap.size → (Builtin.append_ #[t, t] ty #[.slice (some ⟨b1, 0, none⟩) xs.length g1.cap, .slice (some ⟨b2, 0, none⟩) ys.length g2.cap]).run P w = .ok (.slice (some ⟨b, 0, none⟩) (xs.length + ys.length) cap) w' →
        Row w' b e 1 cap (us1 ++ us2).length (us1 ++ us2) → w.grownBy w' (some b1) →
        ∃ u w' F' γ', ((execOp a.eval ⟨dst, .call { callee := .builtin .append, args := #[s, x], argTypes := #[t, t] }, ty, pos, af, g⟩).run P w = .ok (.value u) w' ∨ ((execOp a.eval ⟨dst, .call { callee := .builtin .append, args := #[s, x], argTypes := #[t, t] }, ty, pos, af, g⟩).run P w = .ok .skip w' ∧ u = undef)) ∧
          AV.V w' F' γ' (O.set i .dead ++ [.vbuf e (xs ++ ys)]) (.own O.length 0) u ∧ Inv w' F' γ' (O.set i .dead ++ [.vbuf e (xs ++ ys)]) ∧ Evo w F γ O w' F' γ' (O.set i .dead ++ [.vbuf e (xs ++ ys)]) := by
      intro b cap w' hb hblt hr hrow hgr
      obtain ⟨I', E⟩ := inv_move I (w' := w') (o' := .vbuf e (xs ++ ys)) (g' := { blk := some b, cap := cap }) hOi hg1 hgr.os hgr.tape hgr.output hgr.size (fun k hk hne => hgr.block k hk (fun h => hne (by rw [hb1]; exact h.symm)))
        (fun b' h => by cases h; exact ⟨hb.imp (fun h => by rw [hb1, h]) (fun h => h), hblt⟩) hbd
        (fun E => ⟨b, us1 ++ us2, rfl, hrow, AV.VC_evo I E (by have := I.len; simp [this]) _ _ (VC_append _ _ _ _ hVC1 hVC2)⟩)
      have hv := own_vbuf (e := e) (w := w') (F := F) (γ := γ.set i { blk := none } ++ [{ blk := some b, cap := cap }]) (O := O.set i .dead ++ [.vbuf e (xs ++ ys)]) (i := O.length) (xs := xs ++ ys) (b := b) (cap := cap) (by rw [← I.len]; simp) (by simp)
      rw [List.length_append] at hv
      exact ⟨_, w', F, _, .inl (append_run (by rw [hsv, hxv]; exact hr)), hv, I', E⟩
    have hnews : ∀ (k : Nat) (u : Value), us2[k]? = some u → w.cell? ((⟨b2, 0, none⟩ : Addr).add k) = some u := fun k u hk => by rw [add_lit, Nat.zero_add]; exact hrow2.cell k u hk
    by_cases hroom : xs.length + ys.length ≤ g1.cap
    · obtain ⟨hcl, hnc, hcm, cur, hh, hcs0, htake⟩ := hrow1
      obtain ⟨ie, hi, hie⟩ := Option.map_eq_some_iff.1 S.info
      have hr := run_append_room (P := P) w t ty e ie S.und hi b1 xs.length g1.cap cur hh ⟨b2, 0, none⟩ ys.length g2.cap us2 (by rw [hie]; omega) hnews (fun u hu => VC_one _ _ hVC2 u hu) hroom (by rw [hie]; omega)
      rw [hie] at hr
      have hsz : (w.setRow b1 (cur.toList.take (xs.length * 1) ++ us2 ++ cur.toList.drop (xs.length * 1 + us2.length)).toArray).heap.size = w.heap.size := by simp
      refine fin b1 g1.cap _ (.inl rfl) (by rw [hsz]; exact (I.blks i g1 b1 hg1 hb1).1) hr ⟨by simp, by rw [List.length_append]; omega, hcm, _, setRow_heap w b1 cur _ e _ hh, ?_, ?_⟩
        ⟨rfl, rfl, rfl, by simp, fun k _ hk => setRow_other w b1 k _ (fun e' => hk (by rw [e']))⟩
      · simp only [List.size_toArray, List.length_append, List.length_take, List.length_drop, Array.length_toList]
        omega
      · rw [Nat.mul_one] at htake
        rw [List.length_append, Nat.mul_one, Nat.mul_one, ← hul1, htake, ← List.length_append]
        exact List.take_left
    · obtain ⟨cap', w', hr, hrow, hgr, hlt⟩ := vbuf_grow (P := P) (t := t) (ty := ty) hz hby (w := w) (A0 := some ⟨b1, 0, none⟩) (n := xs.length) (c0 := g1.cap) (cs := us1) (us := us2) (b' := b2) (m := ys.length) (cap' := g2.cap) (fun h => by cases h) hul1 (fun k u hk => by
        simp only [Option.bind_some, add_lit, Nat.zero_add]; exact hrow1.cell k u hk) hnews hul2 hm (by omega)
      exact fin w.heap.size cap' w' (.inr (Nat.le_refl _)) hlt hr (by rw [List.length_append, hul1, hul2]; exact hrow) ⟨hgr.os, hgr.tape, hgr.output, hgr.size, fun k hk _ => hgr.block k hk (by simp)⟩
theorem opv_index_v {x ix : Operand} {t e i k : Nat} {xs : List AV} [S : Slc P t e 1] (hx : evT T x = .own i 0) (hO : O[i]? = some (.vbuf e xs)) (hi : evT T ix = .d (.int .i64 k)) (hl : k < xs.length) :
    OpV P ro ⟨dst, .indexAddr t x ix, ty, pos, af, g⟩ T O (.ref i k) O :=
  OpV.of_same (fun c h => by cases h) fun w F γ a I H => by
    obtain ⟨gg, b, us, hg, hb, hrow, hVC, hxv, hul⟩ := vbuf_val I hO (H.at (x := x) (by simp [Op.operands]) hx)
    have hiv : a.eval ix = .int .i64 (k : Nat) := H.at (x := ix) (by simp [Op.operands]) hi
    refine ⟨.pointer (some ⟨b, k, none⟩), ?_, rfl, gg, _, hg, hO, b, hb, rfl⟩
    simp only [execOp, hxv, hiv]
    simp [Instr.indexAt, asIntOf, run_underlying S.und, hl, run_size_of S.info, add_lit]
theorem opv_load_v {x : Operand} {t i k e : Nat} {xs : List AV} {v : AV} [S : Sz P t 1 false] (hx : evT T x = .ref i k) (hO : O[i]? = some (.vbuf e xs)) (hv : xs[k]? = some v) : OpV P ro ⟨dst, .load t x, ty, pos, af, g⟩ T O v O :=
  OpV.of_same (fun c h => by cases h) fun w F γ a I H => by
    have h1 : AV.V w F γ O (.ref i k) (a.eval x) := H.at (x := x) (by simp [Op.operands]) hx
    obtain ⟨_, gg, o, hg, ho, hm⟩ := h1
    rw [hO] at ho; cases ho
    obtain ⟨b, hb, hp⟩ := hm
    obtain ⟨b', us, h1, hrow, hVC⟩ := I.ok i _ gg hO hg
    rw [hb] at h1; cases h1
    obtain ⟨u, hu, hV⟩ := VC_at xs us k v hVC hv
    refine ⟨u, ?_, hV⟩
    have hc : ∀ (j : Nat) (u' : Value), [u][j]? = some u' → w.cell? ((⟨b, k, none⟩ : Addr).add j) = some u' := fun j u' hj => by
      cases j with
      | zero => cases hj; rw [add_lit, Nat.add_zero]; exact hrow.cell k u hu
      | succ j => simp at hj
    have := run_loadVar (P := P) S ⟨b, k, none⟩ [u] rfl (fun _ => rfl) hc
    simp only [execOp, Instr.loadAt, hp, Instr.sureAddr]
    simp [this]
/-- A slice of slices that is handed out is data from there on, and all objects are. -/
def handed (T : Nat → AV) (s : Nat) (ys : List D) : Nat → AV := upd (fun s => (T s).kill 0) s (.d (.list ys))
theorem Runs.shutV {c : Code} {Q : Exit → (Nat → AV) → List AObj → Prop} (s : Nat) {i et : Nat} {xs : List AV} {ys : List D} (hs : T s = .own i 0) (hO : O[i]? = some (.vbuf et xs)) (hK : K.O = [])
    (hrows : ∀ (j : Nat) (x : AV), xs[j]? = some x → ∃ id ver e sz ds, x = .own id ver ∧ O[id]? = some (.buf e sz ds ver) ∧ ys[j]? = some (.list ds)) (hl : ys.length = xs.length)
    (h : Runs P ro N K c (handed T s ys) [] Q) : Runs P ro N K c T O Q := fun a w hat => by
  obtain ⟨F, γ, I, hT, hsz, hdf, E0⟩ := hat
  have h1 := hT s
  rw [hs] at h1
  obtain ⟨gg, b, us, hg, hb, hrow, hVC, hv, hul⟩ := vbuf_val I hO h1
  let F1 : Nat → Prop := fun b => F b ∨ ∃ (i : Nat) (g : GO), γ[i]? = some g ∧ g.blk = some b
  have I1 : Inv w F1 [] [] := ⟨rfl, fun i o g h => by simp at h, fun i o h => by simp at h, fun i g b h => by simp at h, fun i j g g' b h => by simp at h, fun b hb => hb.elim (I.fr b) fun ⟨i, g, h1, h2⟩ => (I.blks i g b h1 h2).1⟩
  have E1 : Evo K.w K.F K.γ K.O w F1 [] [] := by
    refine ⟨E0.os, E0.tape, E0.output, E0.size, E0.old, fun i g b h => by simp at h, fun b hb => .inl (E0.frm b hb), fun b hb hf => ?_, fun i o o' g g' h => by rw [hK] at h; simp at h, by rw [hK]; exact Nat.le_refl _⟩
    rcases hf with hf | ⟨j, g1, e1, e2⟩
    · exact E0.frn b hb hf
    · rcases E0.mine j g1 b e1 e2 with h | h
      · exact .inr h
      · omega
  have D1 : Df K w F1 [] a.defers := by
    obtain ⟨bs, p1, p2, p3⟩ := hdf
    refine ⟨bs, p1, p2, fun b hb => ?_⟩
    obtain ⟨k1, k2, k3, k4, k5⟩ := p3 b hb
    exact ⟨k1, k2, k3, fun i g h => by simp at h, fun hf => hf.elim k5 fun ⟨i, g, e1, e2⟩ => k4 i g e1 e2⟩
  refine h a w ⟨F1, [], I1, fun s' => ?_, hsz, D1, E1⟩
  unfold handed
  simp only [upd]
  cases hbq : Nat.beq s' s with
  | false =>
    have := AV.V_kill (n := 0) (hT s')
    simp only [List.take_zero] at this
    exact AV.V_mono (fun b hb => .inl hb) (fun _ _ => rfl) Emb.refl _ _ this
  | true =>
    have := Nat.eq_of_beq_eq_true hbq
    subst this
    simp only [cond_true, AV.V]
    rw [hv]
    refine ⟨_, _, 1, by rw [hl], by rw [hl, ← hul]; exact hrow.2.1, fun _ => ⟨_, rfl, rfl, .inr ⟨i, gg, hg, hb⟩⟩, RE_of ys 0 fun k y hy => ?_⟩
    have hk : k < xs.length := by have := (List.getElem?_eq_some_iff.1 hy).1; omega
    obtain ⟨id, ver, e, sz, ds, q1, q2, q3⟩ := hrows k _ (List.getElem?_eq_getElem hk)
    rw [hy] at q3; cases q3
    obtain ⟨u, hu, hV⟩ := VC_at xs us k _ hVC (List.getElem?_eq_getElem hk)
    rw [q1] at hV
    refine ⟨u, own_data I q2 hV F1 (fun b h => .inl h) fun g b hg hb => .inr ⟨id, g, hg, hb⟩, by rw [cells_one hV.1]; rfl, fun j v hj => ?_⟩
    rw [cells_one hV.1] at hj
    cases j with
    | zero =>
      simp at hj; subst hj
      simp only [Option.bind_some, add_lit, Nat.zero_add, Nat.mul_one, Nat.add_zero]
      exact hrow.cell k u hu
    | succ j => simp at hj
end

/-! Tables. -/
def bools (r : List Bool) : List D := r.map .bool
def rowsD (M : List (List Bool)) : List D := M.map fun r => .list (bools r)
def encR (M : List (List Bool)) : D := .agg [.list (rowsD M)]
theorem bools_len (r : List Bool) : (bools r).length = r.length := by simp [bools]
theorem rowsD_len (M : List (List Bool)) : (rowsD M).length = M.length := by simp [rowsD]
theorem bools_rep (n : Nat) : List.replicate n (D.bool false) = bools (List.replicate n false) := by simp [bools]
theorem bools_set (r : List Bool) (i : Nat) (b : Bool) : (bools r).set i (.bool b) = bools (r.set i b) := by simp [bools, List.map_set]
def ownsT (a : Nat) : List AV := (List.range a).map fun j => .own (3 * j) 1
def tobj (e et : Nat) (M : List (List Bool)) (i : Nat) : AObj :=
  if i % 3 = 0 then .buf e 1 (bools (M.getD (i / 3) [])) 1 else if i % 3 = 1 then .vbuf et [.own (i - 1) 1] else if i + 1 = 3 * M.length then .vbuf et (ownsT M.length) else .dead
def tobjs (e et : Nat) (M : List (List Bool)) : List AObj := (List.range (3 * M.length)).map (tobj e et M)
theorem tobjs_len (e et : Nat) (M : List (List Bool)) : (tobjs e et M).length = 3 * M.length := by simp [tobjs]
theorem tobjs_get {e et : Nat} {M : List (List Bool)} {i : Nat} (h : i < 3 * M.length) : (tobjs e et M)[i]? = some (tobj e et M i) := by simp [tobjs, h]
theorem tobjs_row {e et : Nat} {M : List (List Bool)} {j : Nat} (h : j < M.length) : (tobjs e et M)[3 * j]? = some (.buf e 1 (bools M[j]) 1) := by
  rw [tobjs_get (by omega)]
  unfold tobj
  rw [if_pos (by omega), show 3 * j / 3 = j by omega]
  simp [h]
theorem tobjs_last {e et : Nat} {M : List (List Bool)} (h : 0 < M.length) : (tobjs e et M)[3 * M.length - 1]? = some (.vbuf et (ownsT M.length)) := by
  rw [tobjs_get (by omega)]
  unfold tobj
  rw [if_neg (by omega), if_neg (by omega), if_pos (by omega)]
theorem tobjs_set {e et : Nat} {M : List (List Bool)} {j : Nat} {r : List Bool} (h : j < M.length) : (tobjs e et M).set (3 * j) (.buf e 1 (bools r) 1) = tobjs e et (M.set j r) := by
  apply List.ext_getElem?
  intro i
  rw [List.getElem?_set, tobjs_len]
  by_cases hi : i < 3 * M.length
  · rw [tobjs_get (M := M.set j r) (by simpa using hi)]
    by_cases hij : 3 * j = i
    · subst hij
      rw [if_pos rfl, if_pos hi]
      unfold tobj
      rw [if_pos (by omega), show 3 * j / 3 = j by omega]
      simp [h]
    · rw [if_neg hij, tobjs_get hi]
      unfold tobj
      simp only [List.length_set]
      by_cases h3 : i % 3 = 0
      · rw [if_pos h3, if_pos h3]
        have hne : j ≠ i / 3 := by omega
        simp [List.getElem?_set, hne]
      · rw [if_neg h3, if_neg h3]
  · have h2 : ¬ i < 3 * (M.set j r).length := by simpa using hi
    rw [List.getElem?_eq_none (by rw [tobjs_len]; omega)]
    have : ¬ 3 * j = i := by omega
    rw [if_neg this, List.getElem?_eq_none (by rw [tobjs_len]; omega)]
theorem tobjs_snoc {e et : Nat} {M : List (List Bool)} {r : List Bool} : tobjs e et (M ++ [r]) = ((tobjs e et M ++ [AObj.buf e 1 (bools r) 1] ++ [AObj.vbuf et [.own (3 * M.length) 1]]).set (3 * M.length - 1) (if M.length = 0 then .buf e 1 (bools r) 1 else .dead)) ++ [.vbuf et (ownsT (M.length + 1))] := by
  apply List.ext_getElem?
  intro i
  have hl : (tobjs e et M ++ [AObj.buf e 1 (bools r) 1] ++ [AObj.vbuf et [.own (3 * M.length) 1]]).length = 3 * M.length + 2 := by simp [tobjs_len]
  by_cases hi : i < 3 * (M.length + 1)
  · rw [tobjs_get (by simpa using hi)]
    by_cases h2 : i < 3 * M.length + 2
    · rw [List.getElem?_append_left (by rw [List.length_set, hl]; exact h2), List.getElem?_set, hl]
      by_cases hz : M.length = 0
      · have hM : M = [] := List.eq_nil_of_length_eq_zero hz
        subst hM
        simp only [List.length_nil, Nat.mul_zero, Nat.zero_sub, if_true]
        have : i = 0 ∨ i = 1 := by simp at h2; omega
        rcases this with rfl | rfl <;> simp [tobj, tobjs]
      · rw [if_neg hz]
        by_cases hi1 : 3 * M.length - 1 = i
        · rw [if_pos hi1, if_pos (by omega)]
          unfold tobj
          rw [if_neg (by omega), if_neg (by omega), if_neg (by simp; omega)]
        · rw [if_neg hi1]
          by_cases h3 : i < 3 * M.length
          · rw [List.append_assoc, List.getElem?_append_left (by rw [tobjs_len]; exact h3), tobjs_get h3]
            unfold tobj
            by_cases m0 : i % 3 = 0
            · rw [if_pos m0, if_pos m0]
              have : i / 3 < M.length := by omega
              simp [List.getElem?_append_left this]
            · rw [if_neg m0, if_neg m0]
              by_cases m1 : i % 3 = 1
              · rw [if_pos m1, if_pos m1]
              · rw [if_neg m1, if_neg m1, if_neg (by simp; omega), if_neg (by omega)]
          · have : i = 3 * M.length ∨ i = 3 * M.length + 1 := by omega
            rcases this with rfl | rfl
            · rw [List.append_assoc, List.getElem?_append_right (by rw [tobjs_len]; omega), tobjs_len, Nat.sub_self]
              unfold tobj
              rw [if_pos (by omega), show 3 * M.length / 3 = M.length by omega]
              simp
            · rw [List.append_assoc, List.getElem?_append_right (by rw [tobjs_len]; omega), tobjs_len, show 3 * M.length + 1 - 3 * M.length = 1 by omega]
              unfold tobj
              rw [if_neg (by omega), if_pos (by omega)]
              simp
    · have : i = 3 * M.length + 2 := by omega
      subst this
      rw [List.getElem?_append_right (by rw [List.length_set, hl]; omega), List.length_set, hl, Nat.sub_self]
      unfold tobj
      rw [if_neg (by omega), if_neg (by omega), if_pos (by simp; omega)]
      simp
  · rw [List.getElem?_eq_none (by rw [tobjs_len]; simp; omega), List.getElem?_eq_none (by rw [List.length_append, List.length_set, hl]; simp; omega)]
theorem ownsT_succ (a : Nat) : ownsT (a + 1) = ownsT a ++ [.own (3 * a) 1] := by simp [ownsT, List.range_succ]
theorem ownsT_len (a : Nat) : (ownsT a).length = a := by simp [ownsT]
theorem ownsT_get {a j : Nat} (h : j < a) : (ownsT a)[j]? = some (.own (3 * j) 1) := by simp [ownsT, h]

/-! Tables: what is computed, and a rule for each operation on them. -/
def rowF (n a : Nat) (ps : List (Int × Int)) : List Bool := ps.foldl (fun r p => if p.1 = (a : Int) then r.set p.2.toNat true else r) ((List.replicate n false).set a true)
def rowsF (n : Nat) (ps : List (Int × Int)) (a : Nat) : List (List Bool) := (List.range a).map fun j => rowF n j ps
def gt (M : List (List Bool)) (a b : Nat) : Bool := (M.getD a []).getD b false
def stepT (c a : Nat) (M : List (List Bool)) (b : Nat) : List (List Bool) := M.set a ((M.getD a []).set b (gt M a b || (gt M a c && gt M c b)))
def tabB (c a : Nat) (M : List (List Bool)) (b : Nat) : List (List Bool) := (List.range b).foldl (stepT c a) M
def tabA (n c : Nat) (M : List (List Bool)) (a : Nat) : List (List Bool) := (List.range a).foldl (fun M a' => tabB c a' M n) M
def tabC (n : Nat) (M : List (List Bool)) (c : Nat) : List (List Bool) := (List.range c).foldl (fun M c' => tabA n c' M n) M
def tabF (n : Nat) (ps : List (Int × Int)) : List (List Bool) := tabC n (rowsF n ps n) n
def Sq (n : Nat) (M : List (List Bool)) : Prop := M.length = n ∧ ∀ r ∈ M, r.length = n
theorem rowF_len (n a : Nat) (ps : List (Int × Int)) : (rowF n a ps).length = n := by
  unfold rowF
  have key : ∀ (ps : List (Int × Int)) (r : List Bool), r.length = n → (ps.foldl (fun r p => if p.1 = (a : Int) then r.set p.2.toNat true else r) r).length = n := by
    intro ps
    induction ps with
    | nil => intro r h; exact h
    | cons p ps ih => intro r h; rw [List.foldl_cons]; refine ih _ ?_; split <;> simp [h]
  exact key ps _ (by simp)
theorem rowF_take {n a : Nat} {ps : List (Int × Int)} {i : Nat} (h : i < ps.length) : rowF n a (ps.take (i + 1)) = if ps[i].1 = (a : Int) then (rowF n a (ps.take i)).set ps[i].2.toNat true else rowF n a (ps.take i) := by
  unfold rowF; rw [List.take_succ_eq_append_getElem h, List.foldl_append]; rfl
theorem rowsF_succ (n : Nat) (ps : List (Int × Int)) (a : Nat) : rowsF n ps (a + 1) = rowsF n ps a ++ [rowF n a ps] := by simp [rowsF, List.range_succ]
theorem rowsF_len (n : Nat) (ps : List (Int × Int)) (a : Nat) : (rowsF n ps a).length = a := by simp [rowsF]
theorem Sq.rows (n : Nat) (ps : List (Int × Int)) : Sq n (rowsF n ps n) := ⟨rowsF_len n ps n, fun r hr => by
  obtain ⟨j, _, rfl⟩ := List.mem_map.1 hr; exact rowF_len n j ps⟩
theorem Sq.row {n : Nat} {M : List (List Bool)} (h : Sq n M) {a : Nat} (ha : a < M.length) : M[a].length = n := h.2 _ (List.getElem_mem ha)
theorem gt_eq {M : List (List Bool)} {a b : Nat} (ha : a < M.length) (hb : b < M[a].length) : gt M a b = M[a][b] := by simp [gt, ha, hb]
theorem stepT_eq {M : List (List Bool)} {c a b : Nat} (ha : a < M.length) (hc : c < M.length) (hb : b < M[a].length) (hcb : c < M[a].length) (hbc : b < M[c].length) : stepT c a M b = M.set a (M[a].set b (M[a][b] || (M[a][c] && M[c][b]))) := by
  unfold stepT
  rw [gt_eq ha hb, gt_eq ha hcb, gt_eq hc hbc]
  simp [ha]
theorem Sq.step {n c a : Nat} {M : List (List Bool)} (h : Sq n M) (b : Nat) : Sq n (stepT c a M b) := by
  unfold stepT
  refine ⟨by simp [h.1], fun r hr => ?_⟩
  by_cases ha : a < M.length
  · rcases List.mem_or_eq_of_mem_set hr with hr | rfl
    · exact h.2 r hr
    · simp [ha, h.row ha]
  · rw [List.set_eq_of_length_le (by omega)] at hr
    exact h.2 r hr
theorem Sq.tabB {n c a : Nat} {M : List (List Bool)} (h : Sq n M) : ∀ b, Sq n (tabB c a M b)
  | 0 => h
  | b + 1 => by unfold AM.tabB; rw [foldl_range_succ]; exact (Sq.tabB h b).step b
theorem Sq.tabA {n c : Nat} {M : List (List Bool)} (h : Sq n M) : ∀ a, Sq n (tabA n c M a)
  | 0 => h
  | a + 1 => by unfold AM.tabA; rw [foldl_range_succ]; exact (Sq.tabA h a).tabB n
theorem Sq.tabC {n : Nat} {M : List (List Bool)} (h : Sq n M) : ∀ c, Sq n (tabC n M c)
  | 0 => h
  | c + 1 => by unfold AM.tabC; rw [foldl_range_succ]; exact (Sq.tabC h c).tabA n
theorem tabB_succ (c a : Nat) (M : List (List Bool)) (b : Nat) : tabB c a M (b + 1) = stepT c a (tabB c a M b) b := foldl_range_succ _ _ _
theorem tabA_succ (n c : Nat) (M : List (List Bool)) (a : Nat) : tabA n c M (a + 1) = tabB c a (tabA n c M a) n := foldl_range_succ _ _ _
theorem tabC_succ (n : Nat) (M : List (List Bool)) (c : Nat) : tabC n M (c + 1) = tabA n c (tabC n M c) n := foldl_range_succ _ _ _

def tA (a : Nat) : AV := if a = 0 then .nil0 else .own (3 * a - 1) 0
theorem kill_own {id v n : Nat} (h : id < n) : (AV.own id v).kill n = .own id v := by
  simp only [AV.kill]
  rw [show Nat.blt id n = true from by rw [Nat.blt_eq]; exact h]
  rfl
theorem kill_tA {a n : Nat} (h : 3 * a ≤ n) : (tA a).kill n = tA a := by
  unfold tA
  split
  · rfl
  · exact kill_own (by omega)
theorem obj_last {L : List AObj} {o : AObj} {k : Nat} (h : L.length = k) : (L ++ [o])[k]? = some o := by subst h; simp
theorem set_last {L : List AObj} {o o' : AObj} {k : Nat} (h : L.length = k) : (L ++ [o]).set k o' = L ++ [o'] := by subst h; simp
theorem rows_get {M : List (List Bool)} {j : Nat} (h : j < M.length) : (rowsD M)[j]? = some (.list (bools M[j])) := by simp [rowsD, h]
section
variable {P : Program} {ro : Option Nat} {N : Nat} {K : Org} {T : Nat → AV} {O : List AObj} {dst : Option Tmp} {ty : TypeId} {pos : String} {af : Array Edge} {g : Option (Nat × Bool)}
theorem opv_make_at {x y : Operand} {t e by_ n k0 : Nat} {k k' : IntKind} [S : Slc P t e 1] [Z : Ze P e [.d (.bool false)]] [B : Byt P e by_] (hk : O.length = k0) (hx : evT T x = .d (.int k (n : Nat))) (hy : evT T y = .d (.int k' (n : Nat))) (hn : n ≤ 1073741824) (hby : Nat.ble by_ 4096 = true := by rfl) :
    OpV P ro ⟨dst, .makeSlice t x y, ty, pos, af, g⟩ T O (.own k0 1) (O ++ [.buf e 1 (bools (List.replicate n false)) 1]) := by
  have := opv_make (P := P) (ro := ro) (dst := dst) (ty := ty) (pos := pos) (af := af) (g := g) (T := T) (O := O) (t := t) (e := e) (sz := 1) (z := .bool false) (n := n) hx hy hn rfl hby rfl
  rwa [bools_rep, hk] at this
theorem opv_bs_at {t e k0 : Nat} {x : Operand} {v : AV} {z : List AV} [S : Slc P t e 1] [Z : Ze P e z] (hk : O.length = k0) (hx : evT T x = v) (hv : v.one = true) (hbd : v.bd k0) :
    OpV P ro ⟨dst, .buildSlice t 1 #[(0, x)], ty, pos, af, g⟩ T O (.own k0 0) (O ++ [.vbuf e [v]]) := by
  subst hk; exact opv_bs_v hx hv hbd
theorem opv_index_row {x ix : Operand} {t e id : Nat} {i : Int} {r : List Bool} [S : Slc P t e 1] (hx : evT T x = .own id 1) (hO : O[id]? = some (.buf e 1 (bools r) 1)) (hi : evT T ix = .d (.int .i64 i)) (h0 : 0 ≤ i) (hl : i < (r.length : Nat)) :
    OpV P ro ⟨dst, .indexAddr t x ix, ty, pos, af, g⟩ T O (.oel id 1 i.toNat 0) O := opv_index_own hx hO hi h0 (by rw [bools_len]; exact hl)
theorem opv_load_row {x : Operand} {t e id i : Nat} {r : List Bool} [S : Sz P t 1 false] (hx : evT T x = .oel id 1 i 0) (hO : O[id]? = some (.buf e 1 (bools r) 1)) (hi : i < r.length) :
    OpV P ro ⟨dst, .load t x, ty, pos, af, g⟩ T O (.d (.bool r[i])) O := opv_load_oel (y := .bool r[i]) hx hO (by simp [bools, hi]) rfl
theorem opv_store_row {p x : Operand} {t e id i : Nat} {r : List Bool} {b : Bool} [S : Sz P t 1 false] (hp : evT T p = .oel id 1 i 0) (hO : O[id]? = some (.buf e 1 (bools r) 1)) (hx : evT T x = .d (.bool b)) (hi : i < r.length) :
    OpV P ro ⟨dst, .store t p x, ty, pos, af, g⟩ T O .unk (O.set id (.buf e 1 (bools (r.set i b)) 1)) := by
  have := opv_store_oel (P := P) (ro := ro) (dst := dst) (ty := ty) (pos := pos) (af := af) (g := g) (t := t) (v := .d (.bool b)) (y := .bool b) hp hO hx rfl (by rw [bools_len]; exact hi) rfl rfl
  rwa [bools_set] at this
theorem opv_append_T {s x : Operand} {t et e by_ u : Nat} {M : List (List Bool)} {r : List Bool} {z : List AV} [S : Slc P t et 1] [Z : Ze P et z] [B : Byt P et by_] (hu : M.length = u) (hs : evT T s = tA u) (hx : evT T x = .own (3 * u + 1) 0) (hO : O = tobjs e et M ++ [.buf e 1 (bools r) 1] ++ [.vbuf et [.own (3 * u) 1]]) (hm : u ≤ 1000) (hz : Nat.beq z.length 1 = true := by rfl) (hby : Nat.ble by_ 4096 = true := by rfl) :
    OpV P ro ⟨dst, .call { callee := .builtin .append, args := #[s, x], argTypes := #[t, t] }, ty, pos, af, g⟩ T O (.own (3 * u + 2) 0) (tobjs e et (M ++ [r])) := by
  subst hu
  subst hO
  have hl : (tobjs e et M ++ [AObj.buf e 1 (bools r) 1] ++ [AObj.vbuf et [.own (3 * M.length) 1]]).length = 3 * M.length + 2 := by simp [tobjs_len]
  have hO1 : (tobjs e et M ++ [AObj.buf e 1 (bools r) 1] ++ [AObj.vbuf et [.own (3 * M.length) 1]])[3 * M.length + 1]? = some (.vbuf et [.own (3 * M.length) 1]) := obj_last (by simp [tobjs_len])
  rw [tobjs_snoc]
  by_cases h0 : M.length = 0
  · have hM : M = [] := List.eq_nil_of_length_eq_zero h0
    have hs' : evT T s = .nil0 := by rw [hs]; unfold tA; rw [if_pos h0]
    have := opv_append_v0 (P := P) (ro := ro) (dst := dst) (ty := ty) (pos := pos) (af := af) (g := g) (t := t) hs' hx hO1 (by simp) (by simp) hz hby
    rw [hl] at this
    subst hM
    simpa [tobjs, ownsT] using this
  · have hs' : evT T s = .own (3 * M.length - 1) 0 := by rw [hs]; unfold tA; rw [if_neg h0]
    have hO2 : (tobjs e et M ++ [AObj.buf e 1 (bools r) 1] ++ [AObj.vbuf et [.own (3 * M.length) 1]])[3 * M.length - 1]? = some (.vbuf et (ownsT M.length)) := by
      rw [List.append_assoc, List.getElem?_append_left (by rw [tobjs_len]; omega)]; exact tobjs_last (by omega)
    have := opv_append_v (P := P) (ro := ro) (dst := dst) (ty := ty) (pos := pos) (af := af) (g := g) (t := t) hs' hO2 hx hO1 (by simp) (by rw [ownsT_len]; simp; omega) hz hby
    rw [hl, ← ownsT_succ] at this
    rw [if_neg h0]
    exact this
/-! Tables that are data. -/
theorem opv_len_rows {x : Operand} {t e : TypeId} {M : List (List Bool)} [S : Und P t (.slice e)] (hx : evT T x = .d (.list (rowsD M))) :
    OpV P ro ⟨dst, .call { callee := .builtin .len, args := #[x], argTypes := #[t] }, ty, pos, af, g⟩ T O (.d (.int .i64 M.length)) O := by
  have := opv_len (P := P) (ro := ro) (dst := dst) (ty := ty) (pos := pos) (af := af) (g := g) (O := O) (t := t) hx rfl rfl
  rwa [rowsD_len] at this
theorem opv_index_rows {x ix : Operand} {t e : Nat} {i : Int} {M : List (List Bool)} [S : Slc P t e 1] (hx : evT T x = .d (.list (rowsD M))) (hi : evT T ix = .d (.int .i64 i)) (h0 : 0 ≤ i) (hl : i.toNat < M.length) :
    OpV P ro ⟨dst, .indexAddr t x ix, ty, pos, af, g⟩ T O (.d (.ptr [.list (bools M[i.toNat])])) O := opv_index_list (y := .list (bools M[i.toNat])) hx hi h0 (rows_get hl) rfl
theorem opv_index_bools {x ix : Operand} {t e : Nat} {i : Int} {r : List Bool} [S : Slc P t e 1] (hx : evT T x = .d (.list (bools r))) (hi : evT T ix = .d (.int .i64 i)) (h0 : 0 ≤ i) (hl : i.toNat < r.length) :
    OpV P ro ⟨dst, .indexAddr t x ix, ty, pos, af, g⟩ T O (.d (.ptr [.bool r[i.toNat]])) O := opv_index_list (y := .bool r[i.toNat]) hx hi h0 (by simp [bools, hl]) rfl
end

/-! Tables: who is below whom, joins, meets. -/
def isR (M : List (List Bool)) (a : Int) : Bool := decide (0 ≤ a) && decide (a < (M.length : Nat))
theorem isR_iff {M : List (List Bool)} {a : Int} : isR M a = true ↔ 0 ≤ a ∧ a < (M.length : Nat) := by simp [isR]
def leqR (M : List (List Bool)) (a b : Int) : Bool := isR M a && isR M b && gt M a.toNat b.toNat
def lstR (M : List (List Bool)) (a b c : Int) (k : Nat) : Bool := (leqR M a c && leqR M b c) && (List.range k).all fun d => !(leqR M a (d : Nat) && leqR M b (d : Nat) && !leqR M c (d : Nat))
def mstR (M : List (List Bool)) (a b c : Int) (k : Nat) : Bool := (leqR M c a && leqR M c b) && (List.range k).all fun d => !(leqR M (d : Nat) a && leqR M (d : Nat) b && !leqR M (d : Nat) c)
def foundI (p : Nat → Bool) (n : Nat) : Int := match (List.range n).find? p with | some c => (c : Int) | none => -1
theorem foundI_yes {p : Nat → Bool} {n c : Nat} (hc : c < n) (hp : p c = true) (hn : ∀ j, j < c → p j = false) : foundI p n = (c : Int) := by
  unfold foundI; rw [find_range_some hc hp hn]
theorem foundI_no {p : Nat → Bool} {n : Nat} (hn : ∀ j, j < n → p j = false) : foundI p n = -1 := by
  unfold foundI; rw [find_range_none hn]
def joinR (M : List (List Bool)) (a b : Int) : Int := foundI (fun c => lstR M a b (c : Nat) M.length) M.length
def meetR (M : List (List Bool)) (a b : Int) : Int := foundI (fun c => mstR M a b (c : Nat) M.length) M.length
def allC (M : List (List Bool)) (c k : Nat) : Bool := (List.range k).all fun d => gt M c d
def allR (M : List (List Bool)) (c k : Nat) : Bool := (List.range k).all fun d => gt M d c
def botR (M : List (List Bool)) : Int := foundI (fun c => allC M c M.length) M.length
def topR (M : List (List Bool)) : Int := foundI (fun c => allR M c M.length) M.length
theorem all_range_succ (p : Nat → Bool) (k : Nat) : (List.range (k + 1)).all p = ((List.range k).all p && p k) := by rw [List.range_succ, List.all_append]; simp
theorem lstR_succ (M : List (List Bool)) (a b c : Int) (k : Nat) : lstR M a b c (k + 1) = (lstR M a b c k && !(leqR M a (k : Nat) && leqR M b (k : Nat) && !leqR M c (k : Nat))) := by unfold lstR; rw [all_range_succ]; simp only [Bool.and_assoc]
theorem mstR_succ (M : List (List Bool)) (a b c : Int) (k : Nat) : mstR M a b c (k + 1) = (mstR M a b c k && !(leqR M (k : Nat) a && leqR M (k : Nat) b && !leqR M (k : Nat) c)) := by unfold mstR; rw [all_range_succ]; simp only [Bool.and_assoc]
theorem allC_succ (M : List (List Bool)) (c k : Nat) : allC M c (k + 1) = (allC M c k && gt M c k) := all_range_succ _ _
theorem allR_succ (M : List (List Bool)) (c k : Nat) : allR M c (k + 1) = (allR M c k && gt M k c) := all_range_succ _ _
def inR (n : Int) (p : Int × Int) : Bool := decide (0 ≤ p.1) && decide (p.1 < n) && decide (0 ≤ p.2) && decide (p.2 < n)
theorem inR_iff {n : Int} {p : Int × Int} : inR n p = true ↔ 0 ≤ p.1 ∧ p.1 < n ∧ 0 ≤ p.2 ∧ p.2 < n := by simp [inR, and_assoc]
def badR (M : List (List Bool)) (a b : Nat) : Bool := (a != b && gt M a b && gt M b a) || decide (joinR M (a : Nat) (b : Nat) < 0) || decide (meetR M (a : Nat) (b : Nat) < 0)
def goodR (M : List (List Bool)) : Bool := (List.range M.length).all fun a => (List.range M.length).all fun b => !(badR M a b)
def newR (n : Int) (ps : List (Int × Int)) : List (List Bool) × Int :=
  if n < 1 ∨ 16 < n then ([], 1) else if ps.all (inR n) = false then ([], 1) else if goodR (tabF n.toNat ps) = true then (tabF n.toNat ps, 0) else ([], 4)
theorem newR_no {n : Int} {ps : List (Int × Int)} (h : n < 1 ∨ 16 < n) : newR n ps = ([], 1) := if_pos h
theorem newR_out {n : Int} {ps : List (Int × Int)} (h : ¬ (n < 1 ∨ 16 < n)) {i : Nat} (hi : i < ps.length) (hb : inR n ps[i] = false) : newR n ps = ([], 1) := by
  unfold newR
  rw [if_neg h, if_pos (by rw [List.all_eq_false]; exact ⟨_, List.getElem_mem hi, by rw [hb]; simp⟩)]
theorem newR_bad {m : Nat} {ps : List (Int × Int)} (h1 : 1 ≤ m) (h2 : m ≤ 16) (hp : ∀ p ∈ ps, inR (m : Nat) p = true) {a b : Nat} (ha : a < m) (hb : b < m) (hbad : badR (tabF m ps) a b = true) : newR (m : Nat) ps = ([], 4) := by
  have hs := (Sq.rows m ps).tabC m
  unfold newR
  rw [if_neg (by omega), if_neg (by rw [List.all_eq_true.2 hp]; simp), Int.toNat_natCast, if_neg]
  intro hg
  have h := List.all_eq_true.1 hg a (List.mem_range.2 (by show a < (tabC m (rowsF m ps m) m).length; rw [hs.1]; exact ha))
  have h := List.all_eq_true.1 h b (List.mem_range.2 (by show b < (tabC m (rowsF m ps m) m).length; rw [hs.1]; exact hb))
  rw [hbad] at h; cases h
theorem newR_ok {m : Nat} {ps : List (Int × Int)} (h1 : 1 ≤ m) (h2 : m ≤ 16) (hp : ∀ p ∈ ps, inR (m : Nat) p = true) (hg : ∀ a b, a < m → b < m → badR (tabF m ps) a b = false) : newR (m : Nat) ps = (tabF m ps, 0) := by
  have hs := (Sq.rows m ps).tabC m
  unfold newR
  rw [if_neg (by omega), if_neg (by rw [List.all_eq_true.2 hp]; simp), Int.toNat_natCast, if_pos]
  unfold goodR
  rw [List.all_eq_true]
  intro a ha
  rw [List.all_eq_true]
  intro b hb
  have ha : a < (tabC m (rowsF m ps m) m).length := List.mem_range.1 ha
  have hb : b < (tabC m (rowsF m ps m) m).length := List.mem_range.1 hb
  rw [hs.1] at ha hb
  rw [hg a b ha hb]; rfl
section
variable {P : Program} {ro : Option Nat} {T : Nat → AV} {O : List AObj} {dst : Option Tmp} {ty : TypeId} {pos : String} {af : Array Edge} {g : Option (Nat × Bool)}
theorem opv_build_rl0 {t : TypeId} {parts : Array (Nat × Operand)} {places : List (Nat × Nat)} {z : List AV} [S : Strc P t places] [Z : Ze P t z] (hp : parts.toList = []) (hz : mkAgg z = .d (encR [])) :
    OpV P ro ⟨dst, .build t parts, ty, pos, af, g⟩ T O (.d (encR [])) O := by
  rw [← hz]
  exact opv_build (P := P) (ro := ro) (t := t) (z := z) (cs := z) (by rw [hp]; rfl)
end
theorem take_rl (M : List (List Bool)) : takeAV true 1 ([AV.d (.list (rowsD M))].drop 0) = some (.d (encR M)) := rfl

/-! A table and a lattice that are of the same pairs are alike. -/
def encOrd (o : Int × List (Int × Int)) : D := .agg [.int .i64 o.1, .list (encPs o.2)]
def Trn (n : Nat) (T : Nat → Nat → Bool) : Prop := ∀ a b c, a < n → b < n → c < n → T a b = true → T b c = true → T a c = true
theorem gt_stepT {n : Nat} {M : List (List Bool)} (hs : Sq n M) {a b : Nat} (c : Nat) (ha : a < n) (hb : b < n) (x y : Nat) :
    gt (stepT c a M b) x y = if x = a ∧ y = b then (gt M a b || (gt M a c && gt M c b)) else gt M x y := by
  have h1 : a < M.length := by rw [hs.1]; exact ha
  have h2 : (M[a]).length = n := hs.row h1
  unfold stepT
  generalize (gt M a b || (gt M a c && gt M c b)) = v
  unfold gt
  simp only [List.getD_eq_getElem?_getD, List.getElem?_set]
  by_cases hx : a = x
  · subst hx
    simp only [if_true, h1, true_and, List.getElem?_eq_getElem h1, Option.getD_some]
    by_cases hy : b = y
    · subst hy; simp [h2, hb]
    · rw [List.getElem?_set_ne hy, if_neg (fun e => hy e.symm)]
  · rw [if_neg hx, if_neg (fun e => hx e.1.symm)]
theorem gt_tabB {n : Nat} {M : List (List Bool)} (hs : Sq n M) {a c : Nat} (ha : a < n) (hc : c < n) (x y : Nat) : ∀ b, b ≤ n →
    gt (tabB c a M b) x y = if x = a ∧ y < b then (gt M a y || (gt M a c && gt M c y)) else gt M x y := by
  intro b
  induction b generalizing x y with
  | zero => intro _; rw [if_neg (by omega)]; rfl
  | succ b ih =>
    intro hb
    have hq := fun x y => ih x y (by omega)
    rw [tabB_succ, gt_stepT (hs.tabB b) c ha (by omega)]
    have e1 : gt (tabB c a M b) a b = gt M a b := by rw [hq, if_neg (by omega)]
    have e2 : gt (tabB c a M b) a c = gt M a c := by
      rw [hq]; split
      · cases gt M a c <;> simp
      · rfl
    have e3 : gt (tabB c a M b) c b = gt M c b := by rw [hq, if_neg (by omega)]
    rw [e1, e2, e3, hq]
    by_cases h : x = a ∧ y = b
    · rw [if_pos h, if_pos (by omega), h.2]
    · rw [if_neg h]
      by_cases h' : x = a ∧ y < b
      · rw [if_pos h', if_pos (by omega)]
      · rw [if_neg h', if_neg (by omega)]
theorem gt_tabA {n : Nat} {M : List (List Bool)} (hs : Sq n M) {c : Nat} (hc : c < n) : ∀ a, a ≤ n → ∀ x y, x < n → y < n →
    gt (tabA n c M a) x y = if x < a then (gt M x y || (gt M x c && gt M c y)) else gt M x y := by
  intro a
  induction a with
  | zero => intro _ x y _ _; rw [if_neg (by omega)]; rfl
  | succ a ih =>
    intro ha x y hx hy
    have hq := ih (by omega)
    rw [tabA_succ, gt_tabB (hs.tabA a) (by omega) hc _ _ n (Nat.le_refl n)]
    have e1 : gt (tabA n c M a) a y = gt M a y := by rw [hq _ _ (by omega) hy, if_neg (by omega)]
    have e2 : gt (tabA n c M a) a c = gt M a c := by rw [hq _ _ (by omega) hc, if_neg (by omega)]
    have e3 : gt (tabA n c M a) c y = gt M c y := by
      rw [hq _ _ hc hy]; split
      · cases gt M c y <;> simp
      · rfl
    by_cases h : x = a
    · subst h
      rw [if_pos ⟨rfl, hy⟩, e1, e2, e3, if_pos (by omega)]
    · rw [if_neg (fun e => h e.1), hq x y hx hy]
      by_cases h' : x < a
      · rw [if_pos h', if_pos (by omega)]
      · rw [if_neg h', if_neg (by omega)]
theorem gt_tabC {n : Nat} {M : List (List Bool)} (hs : Sq n M) {c : Nat} (hc : c < n) {x y : Nat} (hx : x < n) (hy : y < n) :
    gt (tabC n M (c + 1)) x y = (gt (tabC n M c) x y || (gt (tabC n M c) x c && gt (tabC n M c) c y)) := by
  rw [tabC_succ, gt_tabA (hs.tabC c) hc n (Nat.le_refl n) x y hx hy, if_pos hx]
theorem tabC_le {n : Nat} {M : List (List Bool)} (hs : Sq n M) {x y : Nat} (hx : x < n) (hy : y < n) (h : gt M x y = true) : ∀ c, c ≤ n → gt (tabC n M c) x y = true
  | 0, _ => h
  | c + 1, hc => by rw [gt_tabC hs (by omega) hx hy, tabC_le hs hx hy h c (by omega)]; rfl
theorem tabC_least {n : Nat} {M : List (List Bool)} (hs : Sq n M) {T : Nat → Nat → Bool} (hT : Trn n T) (h : ∀ x y, x < n → y < n → gt M x y = true → T x y = true) : ∀ c, c ≤ n → ∀ x y, x < n → y < n → gt (tabC n M c) x y = true → T x y = true
  | 0, _ => h
  | c + 1, hc => fun x y hx hy e => by
    have ih := tabC_least hs hT h c (by omega)
    rw [gt_tabC hs (by omega) hx hy, Bool.or_eq_true, Bool.and_eq_true] at e
    rcases e with e | ⟨e1, e2⟩
    · exact ih x y hx hy e
    · exact hT x c y hx (by omega) hy (ih x c hx (by omega) e1) (ih c y (by omega) hy e2)
theorem tabC_mid {n : Nat} {M : List (List Bool)} (hs : Sq n M) : ∀ c, c ≤ n → ∀ x j y, x < n → y < n → j < c → gt (tabC n M c) x j = true → gt (tabC n M c) j y = true → gt (tabC n M c) x y = true
  | 0, _ => fun x j y _ _ hj => absurd hj (Nat.not_lt_zero _)
  | c + 1, hc => fun x j y hx hy hj e1 e2 => by
    have ih := tabC_mid hs c (by omega)
    rw [gt_tabC hs (by omega) hx (by omega), Bool.or_eq_true, Bool.and_eq_true] at e1
    rw [gt_tabC hs (by omega) (by omega) hy, Bool.or_eq_true, Bool.and_eq_true] at e2
    rw [gt_tabC hs (by omega) hx hy, Bool.or_eq_true, Bool.and_eq_true]
    rcases Nat.lt_succ_iff_lt_or_eq.1 hj with hj | hj
    · rcases e1 with e1 | ⟨e1, e1'⟩
      · rcases e2 with e2 | ⟨e2, e2'⟩
        · exact .inl (ih x j y hx hy hj e1 e2)
        · exact .inr ⟨ih x j c hx (by omega) hj e1 e2, e2'⟩
      · rcases e2 with e2 | ⟨e2, e2'⟩
        · exact .inr ⟨e1, ih c j y (by omega) hy hj e1' e2⟩
        · exact .inr ⟨e1, e2'⟩
    · subst hj
      refine .inr ⟨?_, ?_⟩
      · rcases e1 with e1 | e1
        · exact e1
        · exact e1.1
      · rcases e2 with e2 | e2
        · exact e2
        · exact e2.2
theorem tabC_trn {n : Nat} {M : List (List Bool)} (hs : Sq n M) : Trn n (gt (tabC n M n)) := fun a b c ha hb hc h1 h2 => tabC_mid hs n (Nat.le_refl n) a b c ha hc hb h1 h2
theorem rowF_get (n a : Nat) {b : Nat} (hb : b < n) (ps : List (Int × Int)) : (rowF n a ps).getD b false = (decide (a = b) || ps.any fun p => decide (p.1 = (a : Int)) && decide (p.2.toNat = b)) := by
  unfold rowF
  have key : ∀ (ps : List (Int × Int)) (r : List Bool), r.length = n → (ps.foldl (fun r p => if p.1 = (a : Int) then r.set p.2.toNat true else r) r).getD b false = (r.getD b false || ps.any fun p => decide (p.1 = (a : Int)) && decide (p.2.toNat = b)) := by
    intro ps
    induction ps with
    | nil => intro r h; simp
    | cons p ps ih =>
      intro r h
      rw [List.foldl_cons, List.any_cons]
      by_cases hp : p.1 = (a : Int)
      · rw [if_pos hp, ih _ (by simp [h]), decide_eq_true hp, Bool.true_and]
        by_cases hq : p.2.toNat = b
        · rw [hq]; simp [List.getElem?_set, h, hb]
        · rw [decide_eq_false hq, Bool.false_or]; simp [List.getElem?_set, hq]
      · rw [if_neg hp, ih _ h, decide_eq_false hp, Bool.false_and, Bool.false_or]
  rw [key ps _ (by simp)]
  congr 1
  by_cases h : a = b
  · subst h; simp [List.getElem?_set, hb]
  · simp [List.getElem?_set, h, hb]
theorem gt_rowsF {n a b : Nat} (ha : a < n) (hb : b < n) (ps : List (Int × Int)) : gt (rowsF n ps n) a b = (decide (a = b) || ps.any fun p => decide (p.1 = (a : Int)) && decide (p.2.toNat = b)) := by
  unfold gt
  rw [show (rowsF n ps n).getD a [] = rowF n a ps from by simp [rowsF, ha]]
  exact rowF_get n a hb ps

/-! The bits. -/
theorem Lt.bit_put {l : Lt} (h : l.Ok) {i v : Nat} (hi : i < 16) (x y : Nat) : (l.put i v).bit x y = if x = i then v.testBit y else l.bit x y := by
  unfold Lt.bit; rw [Lt.put_u h hi]; split <;> rfl
theorem lt0_bit {n : Nat} (hn : n ≤ 16) {a : Nat} (ha : a < n) (b : Nat) : (lt0 n n).bit a b = decide (a = b) := by
  unfold Lt.bit
  rw [show (lt0 n n).u a = 2 ^ a from by
    unfold Lt.u lt0
    rw [List.getD_eq_getElem?_getD, List.getElem?_map, List.getElem?_range (by omega)]
    simp [ha]]
  rw [Nat.testBit_two_pow]
theorem adds_bit : ∀ (ps : List (Int × Int)) (l m : Lt), l.Ok → l.adds ps = some m → (∀ p ∈ ps, inR (l.n : Nat) p = true) ∧ ∀ x y, m.bit x y = (l.bit x y || ps.any fun p => decide (p.1.toNat = x) && decide (p.2.toNat = y))
  | [], l, m, h, e => by cases e; exact ⟨fun p hp => absurd hp (List.not_mem_nil), fun x y => by simp⟩
  | p :: ps, l, m, h, e => by
    simp only [Lt.adds] at e
    split at e
    · rename_i hq
      obtain ⟨h1, h2⟩ := adds_bit ps (l.add p) m (Lt.add_ok h hq.2) e
      have hp1 := Lt.is_iff.1 hq.1
      have hp2 := Lt.is_iff.1 hq.2
      have h16 := h.n16
      refine ⟨fun q hq' => ?_, fun x y => ?_⟩
      · rcases List.mem_cons.1 hq' with rfl | hq'
        · rw [inR_iff]; omega
        · exact h1 q hq'
      · rw [h2, List.any_cons, ← Bool.or_assoc]
        congr 1
        unfold Lt.add
        rw [Lt.bit_put h (by omega), Nat.testBit_or, Nat.testBit_two_pow]
        by_cases hx : p.1.toNat = x
        · rw [if_pos hx.symm, hx]; simp [Lt.bit]
        · rw [if_neg (fun e => hx e.symm)]; simp [hx]
    · cases e
theorem nxt_put {l m : Lt} (h : l.Ok) (e : l.nxt = some m) : ∃ a b, a < l.n ∧ b < l.n ∧ l.bit a b = true ∧ l.sum < m.sum ∧ m.Ok ∧ m.n = l.n ∧ ∀ x y, m.bit x y = if x = a then (l.bit a y || l.bit b y) else l.bit x y := by
  obtain ⟨a, b, ha, hb, hs, rfl⟩ := Lt.nxt_ok h e
  refine ⟨a, b, ha, hb, by simp only [Lt.stp, Bool.and_eq_true] at hs; exact hs.1, Lt.sum_up h ha hs, h.put (Lt.or_lt h a b), rfl, fun x y => ?_⟩
  have := h.n16
  rw [Lt.bit_put h (by omega), Nat.testBit_or]
  rfl
theorem close_le : ∀ (k : Nat) (l : Lt), l.Ok → ∀ x y, l.bit x y = true → (closeF k l).bit x y = true
  | 0, l, h => fun x y e => e
  | k + 1, l, h => fun x y e => by
    cases hn : l.nxt with
    | none => rw [closeF_none hn]; exact e
    | some m =>
      rw [closeF_hit hn]
      obtain ⟨a, b, _, _, _, _, h2, _, h4⟩ := nxt_put h hn
      refine close_le k m h2 x y ?_
      rw [h4]; split
      · rename_i hx; subst hx; rw [e]; rfl
      · exact e
theorem close_least {n : Nat} {T : Nat → Nat → Bool} (hT : Trn n T) : ∀ (k : Nat) (l : Lt), l.Ok → l.n = n → (∀ x y, x < n → l.bit x y = true → y < n ∧ T x y = true) → ∀ x y, x < n → (closeF k l).bit x y = true → y < n ∧ T x y = true
  | 0, l, h, hn, hl => hl
  | k + 1, l, h, hn, hl => by
    cases hx : l.nxt with
    | none => rw [closeF_none hx]; exact hl
    | some m =>
      rw [closeF_hit hx]
      obtain ⟨a, b, ha, hb, hab, _, h2, h3, h4⟩ := nxt_put h hx
      refine close_least hT k m h2 (by rw [h3]; exact hn) fun x y hx e => ?_
      rw [h4] at e
      split at e
      · rename_i hxa
        subst hxa
        rw [Bool.or_eq_true] at e
        rcases e with e | e
        · exact hl x y hx e
        · obtain ⟨hy, h5⟩ := hl b y (by omega) e
          exact ⟨hy, hT x b y hx (by omega) hy (hl x b hx hab).2 h5⟩
      · exact hl x y hx e
theorem close_fix : ∀ (k : Nat) (l : Lt), l.Ok → 2 ^ 20 ≤ l.sum + k → (closeF k l).nxt = none
  | 0, l, h, hk => by
    cases hn : l.nxt with
    | none => exact hn
    | some m =>
      obtain ⟨_, _, _, _, _, h1, h2, _, _⟩ := nxt_put h hn
      have := Lt.sum_top h2
      omega
  | k + 1, l, h, hk => by
    cases hn : l.nxt with
    | none => rw [closeF_none hn]; exact hn
    | some m =>
      rw [closeF_hit hn]
      obtain ⟨_, _, _, _, _, h1, h2, _, _⟩ := nxt_put h hn
      exact close_fix k m h2 (by omega)
theorem fix_trn {l : Lt} (h : l.nxt = none) : Trn l.n l.bit := fun a b c ha hb hc h1 h2 => by
  unfold Lt.nxt at h
  rw [List.findSome?_eq_none_iff] at h
  have h3 := h a (List.mem_range.2 ha)
  rw [List.findSome?_eq_none_iff] at h3
  have h4 := h3 b (List.mem_range.2 hb)
  have h5 : ¬ l.stp a b = true := fun e => by rw [if_pos e] at h4; cases h4
  have h6 : (l.u a ||| l.u b) = l.u a := by
    by_cases e : (l.u a ||| l.u b) = l.u a
    · exact e
    · exact absurd (by simp [Lt.stp, h1, e]) h5
  show (l.u a).testBit c = true
  rw [← h6, Nat.testBit_or, show (l.u b).testBit c = true from h2, Bool.or_true]
/-- The table is the lattice's bits. -/
theorem gt_bit {n : Nat} (hn : n ≤ 16) {ps : List (Int × Int)} {l : Lt} (h : (lt0 n n).adds ps = some l) :
    l.close.n = n ∧ Trn n l.close.bit ∧ (∀ p ∈ ps, inR (n : Nat) p = true) ∧ (∀ a, a < n → l.close.bit a a = true) ∧ (∀ a b, a < n → l.close.bit a b = true → b < n) ∧ ∀ a b, a < n → b < n → gt (tabF n ps) a b = l.close.bit a b := by
  have h0 := lt0_ok (i := n) hn
  obtain ⟨h1, h2⟩ := adds_bit ps _ _ h0 h
  obtain ⟨h3, h4⟩ := Lt.adds_ok ps _ _ h0 h
  have hln : l.n = n := h4
  have hcn : l.close.n = n := by rw [(Lt.close_ok h3).2]; exact hln
  have hT : Trn n l.close.bit := by
    have := fix_trn (close_fix (2 ^ 20) l h3 (by omega))
    rw [show (closeF (2 ^ 20) l).n = n from hcn] at this
    exact this
  have hs := Sq.rows n ps
  have hT2 : Trn n (gt (tabF n ps)) := tabC_trn hs
  have hb : ∀ x y, x < n → l.bit x y = true → y < n ∧ gt (tabF n ps) x y = true := fun x y hx e => by
    have hy : y < n := by
      rw [h2, lt0_bit hn hx, Bool.or_eq_true] at e
      rcases e with e | e
      · have := of_decide_eq_true e; omega
      · obtain ⟨p, hp, e⟩ := List.any_eq_true.1 e
        simp only [Bool.and_eq_true, decide_eq_true_eq] at e
        have h5 : inR ((lt0 n n).n : Nat) p = true := h1 p hp
        rw [inR_iff] at h5
        have : (lt0 n n).n = n := rfl
        omega
    refine ⟨hy, ?_⟩
    refine tabC_le hs hx hy ?_ n (Nat.le_refl n)
    rw [gt_rowsF hx hy]
    rw [h2, lt0_bit hn hx] at e
    rw [Bool.or_eq_true] at e ⊢
    rcases e with e | e
    · exact .inl e
    · refine .inr ?_
      obtain ⟨p, hp, e⟩ := List.any_eq_true.1 e
      refine List.any_eq_true.2 ⟨p, hp, ?_⟩
      have h5 : inR ((lt0 n n).n : Nat) p = true := h1 p hp
      rw [inR_iff] at h5
      simp only [Bool.and_eq_true, decide_eq_true_eq] at e ⊢
      exact ⟨by omega, e.2⟩
  have hcl := close_least hT2 (2 ^ 20) l h3 hln hb
  refine ⟨hcn, hT, h1, fun a ha => close_le _ l h3 a a (by rw [h2, lt0_bit hn ha]; simp), fun a b ha e => (hcl a b ha e).1, fun a b ha hb' => ?_⟩
  rw [Bool.eq_iff_iff]
  refine ⟨tabC_least hs hT (fun x y hx hy e => ?_) n (Nat.le_refl n) a b ha hb', fun e => (hcl a b ha e).2⟩
  refine close_le _ l h3 x y ?_
  rw [h2, lt0_bit hn hx]
  rw [gt_rowsF hx hy] at e
  rw [Bool.or_eq_true] at e ⊢
  rcases e with e | e
  · exact .inl e
  · refine .inr ?_
    obtain ⟨p, hp, e⟩ := List.any_eq_true.1 e
    refine List.any_eq_true.2 ⟨p, hp, ?_⟩
    simp only [Bool.and_eq_true, decide_eq_true_eq] at e ⊢
    exact ⟨by omega, e.2⟩

/-! What is asked of both is alike. -/
structure Mt (M : List (List Bool)) (l : Lt) : Prop where
  sq : Sq l.n M
  n16 : l.n ≤ 16
  leq : ∀ a b, leqR M a b = l.leq a b
  join : ∀ a b, joinR M a b = l.join a b
  top : topR M = l.top
  bot : botR M = l.bottom
theorem find_eq {p q : Nat → Bool} {n : Nat} (h : ∀ j, j < n → p j = q j) : (List.range n).find? p = (List.range n).find? q := by
  have key : ∀ (L : List Nat), (∀ j ∈ L, p j = q j) → L.find? p = L.find? q := by
    intro L
    induction L with
    | nil => intro _; rfl
    | cons x L ih => intro h; rw [List.find?_cons, List.find?_cons, h x (by simp), ih fun j hj => h j (by simp [hj])]
  exact key _ fun j hj => h j (List.mem_range.1 hj)
theorem leq_nat {l : Lt} {a b : Nat} (ha : a < l.n) (hb : b < l.n) : l.leq (a : Nat) (b : Nat) = l.bit a b := by
  unfold Lt.leq
  rw [show l.is ((a : Nat) : Int) = true from Lt.is_iff.2 (by omega), show l.is ((b : Nat) : Int) = true from Lt.is_iff.2 (by omega)]
  rfl
theorem mt_leq {M : List (List Bool)} {l : Lt} (hs : Sq l.n M) (h : ∀ a b, a < l.n → b < l.n → gt M a b = l.bit a b) (a b : Int) : leqR M a b = l.leq a b := by
  unfold leqR Lt.leq isR Lt.is
  rw [hs.1]
  by_cases ha : 0 ≤ a ∧ a < (l.n : Nat)
  · by_cases hb : 0 ≤ b ∧ b < (l.n : Nat)
    · rw [h _ _ (by omega) (by omega)]
    · have : (decide (0 ≤ b) && decide (b < ((l.n : Nat) : Int))) = false := by rw [Bool.eq_false_iff]; simp; omega
      rw [this]; simp
  · have : (decide (0 ≤ a) && decide (a < ((l.n : Nat) : Int))) = false := by rw [Bool.eq_false_iff]; simp; omega
    rw [this]; simp
theorem mt_jp {M : List (List Bool)} {l : Lt} (hs : Sq l.n M) (hin : ∀ a b, a < l.n → l.bit a b = true → b < l.n) (hl : ∀ a b, leqR M a b = l.leq a b) {a b c : Nat} (ha : a < l.n) (hb : b < l.n) (hc : c < l.n) :
    lstR M (a : Nat) (b : Nat) (c : Nat) M.length = l.jp (l.u a &&& l.u b) c := by
  unfold lstR Lt.jp
  rw [hl, hl, leq_nat ha hc, leq_nat hb hc, Nat.testBit_and, hs.1]
  congr 1
  rw [Bool.eq_iff_iff, List.all_eq_true]
  refine ⟨fun h => ?_, fun h d hd => ?_⟩
  · rw [beq_iff_eq]
    refine Nat.eq_of_testBit_eq fun d => ?_
    rw [Nat.testBit_and, Nat.testBit_and]
    by_cases e : ((l.u a).testBit d && (l.u b).testBit d) = true
    · rw [e]
      rw [Bool.and_eq_true] at e
      have hd : d < l.n := hin a d ha e.1
      have := h d (List.mem_range.2 hd)
      rw [hl, hl, hl, leq_nat ha hd, leq_nat hb hd, leq_nat hc hd] at this
      rw [show l.bit a d = true from e.1, show l.bit b d = true from e.2] at this
      rw [show (l.u c).testBit d = l.bit c d from rfl]
      simpa using this
    · rw [Bool.eq_false_iff.2 e, Bool.and_false]
  · have hd := List.mem_range.1 hd
    rw [beq_iff_eq] at h
    rw [hl, hl, hl, leq_nat ha hd, leq_nat hb hd, leq_nat hc hd]
    have h2 : ((l.u c &&& (l.u a &&& l.u b)).testBit d) = (l.u a &&& l.u b).testBit d := by rw [h]
    rw [Nat.testBit_and, Nat.testBit_and] at h2
    show (!((l.u a).testBit d && (l.u b).testBit d && !(l.u c).testBit d)) = true
    revert h2
    cases (l.u a).testBit d <;> cases (l.u b).testBit d <;> cases (l.u c).testBit d <;> simp
theorem mt_join {M : List (List Bool)} {l : Lt} (hs : Sq l.n M) (hin : ∀ a b, a < l.n → l.bit a b = true → b < l.n) (hl : ∀ a b, leqR M a b = l.leq a b) (a b : Int) : joinR M a b = l.join a b := by
  by_cases h : l.is a = true ∧ l.is b = true
  · obtain ⟨a0, a1⟩ := Lt.is_iff.1 h.1
    obtain ⟨b0, b1⟩ := Lt.is_iff.1 h.2
    obtain ⟨x, rfl⟩ : ∃ x : Nat, a = x := ⟨a.toNat, by omega⟩
    obtain ⟨y, rfl⟩ : ∃ y : Nat, b = y := ⟨b.toNat, by omega⟩
    unfold joinR foundI Lt.join
    rw [if_pos h]
    rw [find_eq (q := l.jp (l.u x &&& l.u y)) fun j hj => mt_jp hs hin hl (by omega) (by omega) (by rw [hs.1] at hj; exact hj), hs.1]
    rfl
  · rw [Lt.join_no (by rcases Classical.em (l.is a = true) with h1 | h1
                       · exact .inr (Bool.eq_false_iff.2 fun h2 => h ⟨h1, h2⟩)
                       · exact .inl (Bool.eq_false_iff.2 h1))]
    refine foundI_no fun j hj => ?_
    unfold lstR
    rw [hl, hl]
    have : (l.leq a (j : Nat) && l.leq b (j : Nat)) = false := by
      rw [Bool.eq_false_iff]; intro e
      unfold Lt.leq at e
      simp only [Bool.and_eq_true] at e
      exact h ⟨e.1.1.1, e.2.1.1⟩
    rw [this]; rfl
theorem join_above {l : Lt} {a b : Nat} (ha : a < l.n) (hb : b < l.n) (h : l.join (a : Nat) (b : Nat) ≠ -1) : ∃ c, c < l.n ∧ l.bit a c = true ∧ l.bit b c = true := by
  unfold Lt.join at h
  rw [if_pos ⟨Lt.is_iff.2 (by omega), Lt.is_iff.2 (by omega)⟩] at h
  split at h
  · rename_i c hc
    obtain ⟨h1, h2, _⟩ := List.find?_range_eq_some.1 hc
    unfold Lt.jp at h1
    rw [Bool.and_eq_true, Nat.testBit_and, Bool.and_eq_true] at h1
    exact ⟨c, List.mem_range.1 h2, h1.1.1, h1.1.2⟩
  · exact absurd rfl h
theorem best_below (l : Lt) (a b : Int) : ∀ k, l.best a b k = -1 ∨ ∃ c : Nat, c < k ∧ l.best a b k = (c : Nat) ∧ l.leq (c : Nat) a = true ∧ l.leq (c : Nat) b = true
  | 0 => .inl rfl
  | k + 1 => by
    rw [Lt.best_succ]
    unfold Lt.mstep
    split
    · rename_i h
      simp only [Bool.and_eq_true] at h
      exact .inr ⟨k, by omega, rfl, h.1.1, h.1.2⟩
    · rcases best_below l a b k with h | ⟨c, h1, h2⟩
      · exact .inl h
      · exact .inr ⟨c, by omega, h2⟩
theorem meet_below {l : Lt} {a b : Nat} (ha : a < l.n) (hb : b < l.n) (h : l.meet (a : Nat) (b : Nat) ≠ -1) : ∃ c : Nat, c < l.n ∧ l.leq (c : Nat) (a : Nat) = true ∧ l.leq (c : Nat) (b : Nat) = true ∧ ∀ d : Nat, d < l.n → l.leq (d : Nat) (a : Nat) = true → l.leq (d : Nat) (b : Nat) = true → l.leq (d : Nat) (c : Nat) = true := by
  unfold Lt.meet at h
  rw [if_pos ⟨Lt.is_iff.2 (by omega), Lt.is_iff.2 (by omega)⟩] at h
  split at h
  · rename_i hall
    rcases best_below l (a : Nat) (b : Nat) l.n with h1 | ⟨c, h1, h2, h3, h4⟩
    · exact absurd h1 h
    · refine ⟨c, h1, h3, h4, fun d hd h5 h6 => ?_⟩
      have := List.all_eq_true.1 hall d (List.mem_range.2 hd)
      rw [h5, h6, h2] at this
      simpa using this
  · exact absurd rfl h
theorem tops_top {l : Lt} {t : Nat} (ht : t < l.n) (h1 : ∀ d, d < l.n → l.bit d t = true) (anti : ∀ a b, a < l.n → b < l.n → l.bit a b = true → l.bit b a = true → a = b) : l.top = (t : Nat) := by
  have key : ∀ k, k ≤ l.n → (if t < k then l.tops k = (t : Nat) else l.tops k = -1 ∨ ∃ c : Nat, c < l.n ∧ l.tops k = (c : Nat)) := by
    intro k
    induction k with
    | zero => intro _; rw [if_neg (by omega)]; exact .inl rfl
    | succ k ih =>
      intro hk
      have ih := ih (by omega)
      rw [Lt.tops_succ]
      unfold Lt.tstep
      by_cases e : t < k
      · rw [if_pos e] at ih
        rw [if_pos (by omega), ih]
        split
        · rename_i h
          rw [Bool.or_eq_true] at h
          rcases h with h | h
          · rw [beq_iff_eq] at h; omega
          · rw [leq_nat ht (by omega)] at h
            rw [anti t k ht (by omega) h (h1 k (by omega))]
        · rfl
      · rw [if_neg e] at ih
        by_cases e2 : t = k
        · subst e2
          rw [if_pos (by omega)]
          rcases ih with ih | ⟨c, hc, ih⟩
          · rw [ih]; rfl
          · rw [ih, leq_nat hc ht, h1 c hc, Bool.or_true]; rfl
        · rw [if_neg (by omega)]
          split
          · exact .inr ⟨k, by omega, rfl⟩
          · exact ih
  have := key l.n (Nat.le_refl _)
  rw [if_pos ht] at this
  exact this
theorem bots_bot {l : Lt} {t : Nat} (ht : t < l.n) (h1 : ∀ d, d < l.n → l.bit t d = true) (anti : ∀ a b, a < l.n → b < l.n → l.bit a b = true → l.bit b a = true → a = b) : l.bottom = (t : Nat) := by
  have key : ∀ k, k ≤ l.n → (if t < k then l.bots k = (t : Nat) else l.bots k = -1 ∨ ∃ c : Nat, c < l.n ∧ l.bots k = (c : Nat)) := by
    intro k
    induction k with
    | zero => intro _; rw [if_neg (by omega)]; exact .inl rfl
    | succ k ih =>
      intro hk
      have ih := ih (by omega)
      rw [Lt.bots_succ]
      unfold Lt.bstep
      by_cases e : t < k
      · rw [if_pos e] at ih
        rw [if_pos (by omega), ih]
        split
        · rename_i h
          rw [Bool.or_eq_true] at h
          rcases h with h | h
          · rw [beq_iff_eq] at h; omega
          · rw [leq_nat (by omega) ht] at h
            rw [anti k t (by omega) ht h (h1 k (by omega))]
        · rfl
      · rw [if_neg e] at ih
        by_cases e2 : t = k
        · subst e2
          rw [if_pos (by omega)]
          rcases ih with ih | ⟨c, hc, ih⟩
          · rw [ih]; rfl
          · rw [ih, leq_nat ht hc, h1 c hc, Bool.or_true]; rfl
        · rw [if_neg (by omega)]
          split
          · exact .inr ⟨k, by omega, rfl⟩
          · exact ih
  have := key l.n (Nat.le_refl _)
  rw [if_pos ht] at this
  exact this
theorem newL_inv {n : Int} {ps : List (Int × Int)} {l : Lt} {e : Int} (h : newL n ps = (some l, e)) : ∃ m : Nat, n = (m : Nat) ∧ 1 ≤ m ∧ m ≤ 16 ∧ e = 0 ∧ ∃ q, (lt0 m m).adds ps = some q ∧ l = q.close ∧ q.close.good = true := by
  unfold newL at h
  split at h
  · cases h
  · rename_i hn
    refine ⟨n.toNat, by omega, by omega, by omega, ?_⟩
    split at h
    · cases h
    · rename_i q hq
      split at h
      · rename_i hg
        cases h
        exact ⟨rfl, q, hq, rfl, hg⟩
      · cases h
/-- What the program takes the document takes, and both are alike. -/
theorem new_mt {n : Int} {ps : List (Int × Int)} {l : Lt} {e : Int} (h : newL n ps = (some l, e)) : l.Ok ∧ (newR n ps).2 = 0 ∧ Mt (newR n ps).1 l := by
  obtain ⟨m, rfl, hm1, hm2, rfl, q, hq, rfl, hg⟩ := newL_inv h
  obtain ⟨g1, g2, g3, g4, g5, g6⟩ := gt_bit hm2 hq
  have hok := (Lt.close_ok (Lt.adds_ok ps _ _ (lt0_ok hm2) hq).1).1
  generalize hl : q.close = l at *
  have hs : Sq l.n (tabF m ps) := by rw [g1]; exact (Sq.rows m ps).tabC m
  rw [← g1] at g2 g4 g5
  have g6 : ∀ a b, a < l.n → b < l.n → gt (tabF m ps) a b = l.bit a b := fun a b ha hb => g6 a b (by omega) (by omega)
  have hgood : ∀ a b, a < l.n → b < l.n → l.bad a b = false := fun a b ha hb => by
    have := List.all_eq_true.1 (List.all_eq_true.1 hg a (List.mem_range.2 ha)) b (List.mem_range.2 hb)
    simpa using this
  have hbad : ∀ a b, a < l.n → b < l.n → (a ≠ b → l.bit a b = true → l.bit b a = false) ∧ l.join (a : Nat) (b : Nat) ≠ -1 ∧ l.meet (a : Nat) (b : Nat) ≠ -1 := fun a b ha hb => by
    have := hgood a b ha hb
    unfold Lt.bad at this
    rw [leq_nat ha hb, leq_nat hb ha, Bool.or_eq_false_iff, Bool.or_eq_false_iff] at this
    refine ⟨fun hne e => ?_, by simpa using this.1.2, by simpa using this.2⟩
    have h1 := this.1.1
    rw [e] at h1
    simpa [hne] using h1
  have anti : ∀ a b, a < l.n → b < l.n → l.bit a b = true → l.bit b a = true → a = b := fun a b ha hb h1 h2 => by
    by_cases e : a = b
    · exact e
    · rw [(hbad a b ha hb).1 e h1] at h2; cases h2
  have hleq := mt_leq hs g6
  have hjoin := mt_join hs g5 hleq
  have htop : ∃ t, t < l.n ∧ ∀ d, d < l.n → l.bit d t = true := by
    have key : ∀ k, k < l.n → ∃ t, t < l.n ∧ ∀ d, d ≤ k → l.bit d t = true := by
      intro k
      induction k with
      | zero => intro h0; exact ⟨0, h0, fun d hd => by rw [show d = 0 by omega]; exact g4 0 h0⟩
      | succ k ih =>
        intro hk
        obtain ⟨t, ht, h1⟩ := ih (by omega)
        obtain ⟨c, hc, h2, h3⟩ := join_above ht hk (hbad t (k + 1) ht hk).2.1
        refine ⟨c, hc, fun d hd => ?_⟩
        by_cases e : d = k + 1
        · rw [e]; exact h3
        · exact g2 d t c (by omega) ht hc (h1 d (by omega)) h2
    obtain ⟨t, ht, h1⟩ := key (l.n - 1) (by omega)
    exact ⟨t, ht, fun d hd => h1 d (by omega)⟩
  have hbot : ∃ t, t < l.n ∧ ∀ d, d < l.n → l.bit t d = true := by
    have key : ∀ k, k < l.n → ∃ t, t < l.n ∧ ∀ d, d ≤ k → l.bit t d = true := by
      intro k
      induction k with
      | zero => intro h0; exact ⟨0, h0, fun d hd => by rw [show d = 0 by omega]; exact g4 0 h0⟩
      | succ k ih =>
        intro hk
        obtain ⟨t, ht, h1⟩ := ih (by omega)
        obtain ⟨c, hc, h2, h3, _⟩ := meet_below ht hk (hbad t (k + 1) ht hk).2.2
        rw [leq_nat hc ht] at h2
        rw [leq_nat hc hk] at h3
        refine ⟨c, hc, fun d hd => ?_⟩
        by_cases e : d = k + 1
        · rw [e]; exact h3
        · exact g2 c t d hc ht (by omega) h2 (h1 d (by omega))
    obtain ⟨t, ht, h1⟩ := key (l.n - 1) (by omega)
    exact ⟨t, ht, fun d hd => h1 d (by omega)⟩
  have hR : newR ((m : Nat) : Int) ps = (tabF m ps, 0) := newR_ok hm1 hm2 g3 fun a b ha hb => by
    rw [← g1] at ha hb
    obtain ⟨b1, b2, b3⟩ := hbad a b ha hb
    unfold badR
    rw [g6 a b ha hb, g6 b a hb ha, hjoin]
    have e1 : (a != b && l.bit a b && l.bit b a) = false := by
      by_cases e : a = b
      · subst e; simp
      · cases h1 : l.bit a b with
        | false => simp
        | true => rw [b1 e h1]; simp
    have e2 : decide (l.join (a : Nat) (b : Nat) < 0) = false := by
      refine decide_eq_false ?_
      intro hlt
      unfold Lt.join at b2 hlt
      rw [if_pos ⟨Lt.is_iff.2 (by omega), Lt.is_iff.2 (by omega)⟩] at b2 hlt
      split at hlt
      · omega
      · rename_i hx; rw [hx] at b2; exact b2 rfl
    have e3 : decide (meetR (tabF m ps) (a : Nat) (b : Nat) < 0) = false := by
      refine decide_eq_false ?_
      intro hlt
      obtain ⟨c, hc, m1, m2, m3⟩ := meet_below ha hb b3
      unfold meetR foundI at hlt
      split at hlt
      · omega
      · rename_i hn
        rw [List.find?_eq_none] at hn
        refine hn c (List.mem_range.2 (by rw [hs.1]; exact hc)) ?_
        unfold mstR
        rw [hleq, hleq, m1, m2, Bool.and_self, Bool.true_and, List.all_eq_true]
        intro d hd
        rw [hleq, hleq, hleq]
        have hd := List.mem_range.1 hd
        rw [hs.1] at hd
        cases h1 : l.leq ((d : Nat) : Int) ((a : Nat) : Int) with
        | false => rfl
        | true =>
          cases h2 : l.leq ((d : Nat) : Int) ((b : Nat) : Int) with
          | false => rfl
          | true => rw [m3 d hd h1 h2]; rfl
    rw [e1, e2, e3]; rfl
  rw [hR]
  refine ⟨hok, rfl, hs, by rw [g1]; exact hm2, hleq, hjoin, ?_, ?_⟩
  · obtain ⟨t, ht, h1⟩ := htop
    rw [tops_top ht h1 anti]
    refine foundI_yes (by rw [hs.1]; exact ht) ?_ fun j hj => ?_
    · unfold allR; rw [List.all_eq_true]; intro d hd
      have hd := List.mem_range.1 hd
      rw [hs.1] at hd
      rw [g6 d t hd ht]; exact h1 d hd
    · rw [Bool.eq_false_iff]; intro e
      unfold allR at e
      rw [List.all_eq_true] at e
      have := e t (List.mem_range.2 (by rw [hs.1]; exact ht))
      rw [g6 t j ht (by omega)] at this
      have := anti t j ht (by omega) this (h1 j (by omega))
      omega
  · obtain ⟨t, ht, h1⟩ := hbot
    rw [bots_bot ht h1 anti]
    refine foundI_yes (by rw [hs.1]; exact ht) ?_ fun j hj => ?_
    · unfold allC; rw [List.all_eq_true]; intro d hd
      have hd := List.mem_range.1 hd
      rw [hs.1] at hd
      rw [g6 t d ht hd]; exact h1 d hd
    · rw [Bool.eq_false_iff]; intro e
      unfold allC at e
      rw [List.all_eq_true] at e
      have := e t (List.mem_range.2 (by rw [hs.1]; exact ht))
      rw [g6 j t (by omega) ht] at this
      have := anti j t (by omega) ht this (h1 j (by omega))
      omega

section
variable {P : Program} {ro : Option Nat} {T : Nat → AV} {O : List AObj} {dst : Option Tmp} {ty : TypeId} {pos : String} {af : Array Edge} {g : Option (Nat × Bool)}
end
end Go.Proofs.Ytohncglpjiplaaa.AM
