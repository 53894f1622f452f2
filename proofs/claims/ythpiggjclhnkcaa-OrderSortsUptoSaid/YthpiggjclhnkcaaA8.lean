/- append; slices of slices. -/
import Derived.Test.YthpiggjclhnkcaaA7
namespace Go.Proofs.Ythpiggjclhnkcaa.AM
open Go
set_option linter.unusedVariables false
set_option linter.unusedSimpArgs false
class Byt (P : Program) (e : TypeId) (n : outParam Nat) : Prop where
  h : (P.info? e).map (·.bytes) = some n
section
variable {P : Program} {ro : Option Nat} {T : Nat → AV} {O : List AObj} {dst : Option Tmp} {ty : TypeId} {pos : String} {af : Array Edge} {g : Option (Nat × Bool)}

theorem RE_reindex {w : World} {F : Nat → Prop} {get get' : Nat → Option Value} {sz : Nat} (d : Nat) (hg : ∀ k u, get k = some u → get' (k + d * sz) = some u) : ∀ (xs : List D) (i : Nat), D.RE w F get sz i xs → D.RE w F get' sz (i + d) xs
  | [], i, _ => trivial
  | x :: xs, i, ⟨⟨v, h1, h2, h3⟩, h4⟩ => ⟨⟨v, h1, h2, fun j u hj => by
      have := hg _ _ (h3 j u hj)
      rwa [show i * sz + j + d * sz = (i + d) * sz + j by rw [Nat.add_mul]; omega] at this⟩, by
      rw [show i + d + 1 = i + 1 + d by omega]; exact RE_reindex d hg xs (i + 1) h4⟩
theorem RC_one {w : World} {F : Nat → Prop} : ∀ (cs : List D) (us : List Value), D.RC w F cs us → ∀ u ∈ us, u.oneCell' = true
  | [], us, h, u, hu => by rw [show us = [] from h] at hu; cases hu
  | c :: cs, us, ⟨u', us', e, h1, h2, h3⟩, u, hu => by
    rw [e] at hu
    rcases List.mem_cons.1 hu with rfl | hu
    · exact (D.R_one h1 h2).1
    · exact RC_one cs us' h3 u hu
theorem RE_flat {w : World} {F : Nat → Prop} {get : Nat → Option Value} {sz : Nat} : ∀ (ys : List D) (i : Nat), D.RE w F get sz i ys →
    ∃ news : List Value, news.length = ys.length * sz ∧ (∀ (j : Nat) (u : Value), news[j]? = some u → get (i * sz + j) = some u) ∧ (∀ u ∈ news, u.oneCell' = true) ∧ D.RE w F (fun k => news[k]?) sz 0 ys
  | [], i, _ => ⟨[], by simp, (fun j u h => by cases h), (fun u h => by cases h), trivial⟩
  | y :: ys, i, ⟨⟨v, h1, h2, h3⟩, h4⟩ => by
    obtain ⟨news, e1, e2, e3, e4⟩ := RE_flat ys (i + 1) h4
    have hvl : v.cells.toList.length = sz := by simpa using h2
    refine ⟨v.cells.toList ++ news, by simp [e1, h2, Nat.add_mul]; omega, fun j u hj => ?_, fun u hu => ?_, ⟨v, h1, h2, fun j u hj => ?_⟩, ?_⟩
    · by_cases hlt : j < sz
      · rw [List.getElem?_append_left (by omega)] at hj; exact h3 j u (by simpa using hj)
      · rw [List.getElem?_append_right (by omega), hvl] at hj
        have := e2 _ _ hj
        rwa [show (i + 1) * sz + (j - sz) = i * sz + j by rw [Nat.add_mul]; omega] at this
    · rcases List.mem_append.1 hu with hu | hu
      · exact RC_one _ _ (RC_cells' h1) u hu
      · exact e3 u hu
    · have hj' : j < sz := by rw [← h2]; exact (Array.getElem?_eq_some_iff.1 hj).1
      simp only [Nat.zero_mul, Nat.zero_add]
      rw [List.getElem?_append_left (by omega)]; simpa using hj
    · refine RE_reindex (get := fun k => news[k]?) 1 (fun k u hk => ?_) ys 0 e4
      rw [Nat.one_mul, List.getElem?_append_right (by omega), hvl, Nat.add_sub_cancel]; exact hk
theorem RE_append {w : World} {F : Nat → Prop} {sz : Nat} {cs ds : List Value} : ∀ (xs : List D) (ys : List D), cs.length = xs.length * sz → D.RE w F (fun k => cs[k]?) sz 0 xs → D.RE w F (fun k => ds[k]?) sz 0 ys → D.RE w F (fun k => (cs ++ ds)[k]?) sz 0 (xs ++ ys) := by
  intro xs ys hl h k
  refine RE_mk (xs ++ ys) 0 fun j x hj => ?_
  by_cases hlt : j < xs.length
  · rw [List.getElem?_append_left hlt] at hj
    obtain ⟨v, h1, h2, h3⟩ := RE_get xs 0 j x h hj
    refine ⟨v, h1, h2, fun t u ht => ?_⟩
    have := h3 t u ht
    have hlt' := (List.getElem?_eq_some_iff.1 this).1
    show (cs ++ ds)[_]? = _
    rw [List.getElem?_append_left hlt']; exact this
  · rw [List.getElem?_append_right (by omega)] at hj
    obtain ⟨v, h1, h2, h3⟩ := RE_get ys 0 (j - xs.length) x k hj
    refine ⟨v, h1, h2, fun t u ht => ?_⟩
    have := h3 t u ht
    show (cs ++ ds)[_]? = _
    have he : (0 + j) * sz + t = cs.length + ((0 + (j - xs.length)) * sz + t) := by
      rw [hl, Nat.zero_add, Nat.zero_add, ← Nat.add_assoc, ← Nat.add_mul]; congr 2; omega
    rw [he, List.getElem?_append_right (by omega), Nat.add_sub_cancel_left]; exact this

/-- What append does onto a slice without room. -/
theorem app_grow {w : World} {t ty e sz by_ : Nat} [S : Slc P t e sz] {z : List AV} [Z : Ze P e z] (hz : Nat.beq z.length sz = true) [B : Byt P e by_] {A0 : Option Addr} {n c0 : Nat} {cs : List Value}
    (hA0 : A0 = none → n = 0 ∧ c0 = 0) (hcs : cs.length = n * sz) (hold : ∀ (j : Nat) (u : Value), cs[j]? = some u → (A0.bind fun ad => w.cell? (ad.add j)) = some u)
    {ad : Addr} {m c : Nat} {news : List Value} (hl : news.length = m * sz) (hnews : ∀ (j : Nat) (u : Value), news[j]? = some u → w.cell? (ad.add j) = some u)
    (hb : (n + m) * by_ ≤ 140737488355328) (hm : n + m ≤ maxLen) (hg : c0 < n + m) :
    ∃ cap w', (Builtin.append_ #[t, t] ty #[.slice A0 n c0, .slice (some ad) m c]).run P w = .ok (.slice (some ⟨w.heap.size, 0, none⟩) (n + m) cap) w' ∧
      w'.ownsRow 0 e sz (.slice (some ⟨w.heap.size, 0, none⟩) (n + m) cap) (n + m) (cs ++ news) ∧ w.grownBy w' none ∧ w.heap.size < w'.heap.size := by
  obtain ⟨ie, hi, hie⟩ := Option.map_eq_some_iff.1 S.info
  obtain ⟨zv, hzv, hze, hzo⟩ := Z.h
  obtain ⟨ie', hi', hzv'⟩ := Option.bind_eq_some_iff.1 hzv
  rw [hi] at hi'; cases hi'
  obtain ⟨ie', hi', hby⟩ := Option.map_eq_some_iff.1 B.h
  rw [hi] at hi'; cases hi'
  have hzs : zv.cells.size = sz := by rw [← Nat.eq_of_beq_eq_true hz, ← hze]; simp
  have hm' : n + m ≤ 9223372036854775807 := by simp only [maxLen] at hm; omega
  subst hie; subst hby
  have hge := grownCap_ge w (n + m) c0 e
  have hcm : grownCap w (n + m) c0 e ≤ maxLen := grownCap_le_maxLen w (n + m) c0 e hm
  have hlen : (cs ++ news).length = (n + m) * ie.size := by rw [List.length_append, hcs, hl, Nat.add_mul]
  refine ⟨grownCap w (n + m) c0 e, w.drew.alloc (.cells (cs.toArray ++ news.toArray ++ Builtin.zeroCells zv.cells (grownCap w (n + m) c0 e - (n + m))) e), ?_,
    ⟨hlen, .inr ⟨w.heap.size, _, _, rfl, Nat.zero_le _, heap_alloc_new w.drew _, hge, hcm, ?_, ?_⟩⟩, ⟨rfl, rfl, rfl, by simp, fun k hk _ => heap_alloc_old w.drew _ hk⟩, by simp⟩
  · cases A0 with
    | none =>
      obtain ⟨rfl, rfl⟩ := hA0 rfl
      have hcs0 : cs = [] := List.eq_nil_of_length_eq_zero (by simpa using hcs)
      subst hcs0
      have hr := run_append_nil (P := P) w t ty e ie zv S.und hi hzv' ad m c news hl hnews (by omega) (by omega) (by simp only [Nat.zero_add] at hb; omega)
      simpa using hr
    | some b =>
      exact run_append_grow (P := P) w t ty e ie zv S.und hi hzv' b n c0 cs hcs (fun j v hj => by simpa using hold j v hj) ad m c news hl hnews hg (by omega) (growslice_fits hg hb)
  · simp only [Array.size_append, List.size_toArray, size_zeroCells, hzs, hcs, hl, ← Nat.add_mul]
    congr 1
    omega
  · simp only [Array.toList_append, List.append_assoc]
    rw [← List.append_assoc, ← hlen]
    exact List.take_left
/-- Nothing is appended. -/
theorem app_none {w : World} {t ty e sz n c0 c : Nat} {A0 A : Option Addr} [S : Slc P t e sz] (h : n ≤ c0) : (Builtin.append_ #[t, t] ty #[.slice A0 n c0, .slice A 0 c]).run P w = .ok (.slice A0 n c0) w := by
  obtain ⟨ie, hi, hie⟩ := Option.map_eq_some_iff.1 S.info
  cases A <;> cases A0 <;> simp [Builtin.append_, run_underlying S.und, sizeOf, typeInfo, hi, Builtin.lenOf, Builtin.firstCells, loadCells, loadCellsFrom, h, storeCells]
/-- A list's cells in a row. -/
theorem list_flat {w : World} {F : Nat → Prop} {ys : List D} {v : Value} {sz : Nat} (h : D.R w F (.list ys) v) (hsz : ∀ y ∈ ys, y.cells.length = sz) :
    ∃ (A : Option Addr) (c : Nat) (news : List Value), v = .slice A ys.length c ∧ (ys ≠ [] → ∃ ad, A = some ad) ∧ news.length = ys.length * sz ∧
      (∀ (j : Nat) (u : Value), news[j]? = some u → (A.bind fun ad => w.cell? (ad.add j)) = some u) ∧ (∀ u ∈ news, u.oneCell' = true) ∧ D.RE w F (fun k => news[k]?) sz 0 ys := by
  obtain ⟨A, c, s, rfl, hc, hA, hE⟩ := h
  cases ys with
  | nil => exact ⟨A, c, [], rfl, (fun h => absurd rfl h), by simp, (fun j u h => by cases h), (fun u h => by cases h), trivial⟩
  | cons y ys =>
    have hs : s = sz := by
      obtain ⟨v, h1, h2, _⟩ := hE.1
      rw [← h2, ← hsz y (List.mem_cons_self), ← RC_length _ _ (RC_cells' h1)]; simp
    subst hs
    obtain ⟨news, e1, e2, e3, e4⟩ := RE_flat (y :: ys) 0 hE
    exact ⟨A, c, news, rfl, fun _ => let ⟨ad, h, _⟩ := hA (by simp); ⟨ad, h⟩, e1, fun j u hj => by have := e2 j u hj; simpa using this, e3, e4⟩

theorem maxLen_of {n : Nat} (h : n ≤ 1073741824) : n ≤ maxLen := by unfold maxLen; omega
theorem bytes_of {n b : Nat} (h : n ≤ 1073741824) (hb : Nat.ble b 4096 = true) : n * b ≤ 140737488355328 := by
  have hb' := Nat.le_of_ble_eq_true hb
  have := Nat.mul_le_mul h hb'
  omega

theorem append_run {w : World} {a : Act} {s x : Operand} {ts : Array TypeId} {v : Value} {w' : World} (h : (Builtin.append_ ts ty #[a.eval s, a.eval x]).run P w = .ok v w') :
    (execOp a.eval ⟨dst, .call { callee := .builtin .append, args := #[s, x], argTypes := ts }, ty, pos, af, g⟩).run P w = .ok (.value v) w' :=
  run_builtin (s := Builtin.append_ ts ty (#[s, x].map a.eval)) (fun _ => rfl) (by simpa using h)

/-- What is appended, however it comes. -/
structure Apps (P : Program) (w : World) (F : Nat → Prop) (ts : Array TypeId) (ty : TypeId) (xv : Value) (e sz : Nat) (ys : List D) (news : List Value) : Prop where
  len : news.length = ys.length * sz
  one : ∀ u ∈ news, u.oneCell' = true
  re : D.RE w F (fun k => news[k]?) sz 0 ys
  none : ys = [] → ∀ (A0 : Option Addr) (n c0 : Nat), n ≤ c0 → (Builtin.append_ ts ty #[.slice A0 n c0, xv]).run P w = .ok (.slice A0 n c0) w
  room : ys ≠ [] → ∀ (b n cap : Nat) (cur : Array Value), w.heap[b]? = some (.cells cur e (0, 0)) → n + ys.length ≤ cap → n * sz + news.length ≤ cur.size →
    (Builtin.append_ ts ty #[.slice (some ⟨b, 0, Option.none⟩) n cap, xv]).run P w = .ok (.slice (some ⟨b, 0, Option.none⟩) (n + ys.length) cap) (w.setRow b (cur.toList.take (n * sz) ++ news ++ cur.toList.drop (n * sz + news.length)).toArray)
  grow : ys ≠ [] → ∀ (A0 : Option Addr) (n c0 : Nat) (cs : List Value), (A0 = Option.none → n = 0 ∧ c0 = 0) → cs.length = n * sz → (∀ (j : Nat) (u : Value), cs[j]? = some u → (A0.bind fun ad => w.cell? (ad.add j)) = some u) → c0 < n + ys.length → n + ys.length ≤ 1073741824 →
    ∃ cap w', (Builtin.append_ ts ty #[.slice A0 n c0, xv]).run P w = .ok (.slice (some ⟨w.heap.size, 0, Option.none⟩) (n + ys.length) cap) w' ∧
      w'.ownsRow 0 e sz (.slice (some ⟨w.heap.size, 0, Option.none⟩) (n + ys.length) cap) (n + ys.length) (cs ++ news) ∧ w.grownBy w' Option.none ∧ w.heap.size < w'.heap.size

theorem opv_append_gen {s x : Operand} {ts : Array TypeId} {e sz id ver : Nat} {xs ys : List D} (hs : evT T s = .own id ver) (hO : O[id]? = some (.buf e sz xs ver)) (hm : xs.length + ys.length ≤ 1073741824)
    (hx : ∀ (w : World) (F : Nat → Prop) (γ : List GO) (a : Act), Inv w F γ O → OpndOk w F γ O T a ⟨dst, .call { callee := .builtin .append, args := #[s, x], argTypes := ts }, ty, pos, af, g⟩ → ∃ news, Apps P w F ts ty (a.eval x) e sz ys news) :
    OpV P ro ⟨dst, .call { callee := .builtin .append, args := #[s, x], argTypes := ts }, ty, pos, af, g⟩ T O (.own id (ver + 1)) (O.set id (.buf e sz (xs ++ ys) (ver + 1))) :=
  OpV.of_run (fun c h => by cases h) fun w F γ a I H => by
    obtain ⟨news, AP⟩ := hx w F γ a I H
    obtain ⟨hnl, hn1, hnE⟩ := (⟨AP.len, AP.one, AP.re⟩ : _ ∧ _ ∧ _)
    have h1 := H.at (x := s) (by simp [Op.operands, Call.operands]) hs
    obtain ⟨g', hg, _, hp⟩ := ownAt_val hO h1.2
    have hp : a.eval s = g'.slice xs.length := hp rfl
    have hok := I.ok id _ g' hO hg
    have hgid : γ[id]? = some g' := hg
    have hidO : id < O.length := (List.getElem?_eq_some_iff.1 hO).1
    have hidγ : id < γ.length := (List.getElem?_eq_some_iff.1 hg).1
    by_cases hys : ys = []
    · subst hys
      have hle : xs.length ≤ g'.cap := by
        rcases hok with ⟨_, hx0, _⟩ | ⟨b, cs, hb, ⟨_, hle, _⟩, _, _⟩
        · rw [hx0]; exact Nat.zero_le _
        · exact hle
      obtain ⟨I', E⟩ := I.upd (w' := w) (F' := F) (o' := .buf e sz (xs ++ []) (ver + 1)) (g' := g') hO hg rfl rfl rfl (Nat.le_refl _) (fun _ _ _ => rfl) (fun _ h => .inl h) (fun b hb => I.blks id g' b hg hb)
        (fun _ h => h) (fun _ h => .inl h) ⟨rfl, rfl, .inl (Nat.lt_succ_self _)⟩ trivial (fun E => by rw [List.append_nil]; exact hok.imp (fun ⟨q1, q2, q3, _⟩ => ⟨q1, q2, q3, fun h => by cases h⟩) (fun ⟨b, cs, q1, q2, q3, q4, _⟩ => ⟨b, cs, q1, q2, q3, q4, Nat.succ_pos _⟩))
      refine ⟨a.eval s, w, F, _, .inl (append_run ?_), ⟨h1.1, g', .buf e sz (xs ++ []) (ver + 1), ?_, ?_, Nat.le_refl _, fun _ => by rw [List.append_nil]; exact hp⟩, I', E⟩
      · rw [hp]; exact AP.none rfl _ _ _ hle
      · rw [List.getElem?_set_self hidγ]
      · rw [List.getElem?_set_self hidO]
    · have hyl : ys.length ≠ 0 := fun h => hys (List.eq_nil_of_length_eq_zero h)
      have fin : ∀ (b cap : Nat) (w' : World) (cs : List Value), (g'.blk = some b ∨ w.heap.size ≤ b ∧ b < w'.heap.size) → cs.length = xs.length * sz → D.RE w F (fun k => cs[k]?) sz 0 xs → (∀ u ∈ cs, u.oneCell' = true) →
          (Builtin.append_ ts ty #[g'.slice xs.length, a.eval x]).run P w = .ok (.slice (some ⟨b, 0, none⟩) (xs.length + ys.length) cap) w' →
          Row w' b e sz cap (xs.length + ys.length) (cs ++ news) → w.grownBy w' g'.blk →
          ∃ u w' F' γ', ((execOp a.eval ⟨dst, .call { callee := .builtin .append, args := #[s, x], argTypes := ts }, ty, pos, af, g⟩).run P w = .ok (.value u) w' ∨ ((execOp a.eval ⟨dst, .call { callee := .builtin .append, args := #[s, x], argTypes := ts }, ty, pos, af, g⟩).run P w = .ok .skip w' ∧ u = undef)) ∧
            AV.V w' F' γ' (O.set id (.buf e sz (xs ++ ys) (ver + 1))) (.own id (ver + 1)) u ∧ Inv w' F' γ' (O.set id (.buf e sz (xs ++ ys) (ver + 1))) ∧ Evo w F γ O w' F' γ' (O.set id (.buf e sz (xs ++ ys) (ver + 1))) := by
        intro b cap w' cs hb hcl hcE hc1 hrun hown hgr
        have hbl : ∀ b', ({ blk := some b, cap := cap } : GO).blk = some b' → b' = b := fun b' h => by cases h; rfl
        obtain ⟨I', E⟩ := I.upd (w' := w') (F' := F) (o' := .buf e sz (xs ++ ys) (ver + 1)) (g' := { blk := some b, cap := cap }) hO hg hgr.os hgr.tape hgr.output hgr.size
          (fun k hk hne => hgr.block k hk (fun h => hne h.symm)) (fun b' h => by rw [hbl b' h]; exact hb.imp (fun h => h) (fun h => h.1))
          (fun b' h => by
            rw [hbl b' h]
            rcases hb with hb | hb
            · obtain ⟨k1, k2⟩ := I.blks id g' b hg hb; exact ⟨Nat.lt_of_lt_of_le k1 hgr.size, k2⟩
            · exact ⟨hb.2, fun hf => by have := I.fr b hf; omega⟩)
          (fun _ h => h) (fun _ h => .inl h) ⟨rfl, rfl, .inl (Nat.lt_succ_self _)⟩ trivial
          (fun E => .inr ⟨b, cs ++ news, rfl, by rw [List.length_append]; exact hown, fun u hu => (List.mem_append.1 hu).elim (hc1 u) (hn1 u),
            D.RE_mono E.frm (E.keep I) _ _ (fun _ _ h => h) _ _ _ (RE_append xs ys hcl hcE hnE), Nat.succ_pos _⟩)
        refine ⟨_, w', F, _, .inl (append_run (by rw [hp]; exact hrun)), ⟨rfl, { blk := some b, cap := cap }, .buf e sz (xs ++ ys) (ver + 1), ?_, ?_, Nat.le_refl _, fun _ => by simp [GO.slice]⟩, I', E⟩
        · rw [List.getElem?_set_self hidγ]
        · rw [List.getElem?_set_self hidO]
      rcases hok with ⟨hb0, hx0, hc0⟩ | ⟨b, cs, hb, hrow, hc1, hcE, _⟩
      · subst hx0
        obtain ⟨cap, w', hr, ho, hgr, hlt⟩ := AP.grow hys g'.base 0 0 [] (fun _ => ⟨rfl, rfl⟩) (by simp) (fun j u h => by cases h) (by omega) (by simpa using hm)
        refine fin w.heap.size cap w' [] (.inr ⟨Nat.le_refl _, hlt⟩) (by simp) trivial (fun u h => by cases h) ?_ (by simpa using Row.of_owns ho) (by rw [hb0]; exact hgr)
        simpa [GO.slice, hb0, hc0.1] using hr
      · have hsl : g'.slice xs.length = .slice (some ⟨b, 0, none⟩) xs.length g'.cap := by simp [GO.slice, hb]
        have hrow0 := hrow
        obtain ⟨hcl, hnc, hcm, cur, hh, hcs0, htake⟩ := hrow
        · skip
          by_cases hroom : xs.length + ys.length ≤ g'.cap
          · have hfit : xs.length * sz + news.length ≤ cur.size := by rw [hnl, ← Nat.add_mul]; exact Nat.le_trans (Nat.mul_le_mul_right _ hroom) hcs0
            have hr := AP.room hys b xs.length g'.cap cur hh hroom hfit
            refine fin b g'.cap _ cs (.inl hb) hcl hcE hc1 (by rw [hsl]; exact hr) ⟨by rw [List.length_append, hcl, hnl, Nat.add_mul], hroom, hcm, _, setRow_heap w b cur _ e _ hh, ?_, ?_⟩
              ⟨rfl, rfl, rfl, by simp, fun k _ hk => setRow_other w b k _ (fun e => hk (by rw [hb, e]))⟩
            · simp only [List.size_toArray, List.length_append, List.length_take, List.length_drop, Array.length_toList]
              omega
            · rw [htake, Nat.add_mul, ← hcl, ← hnl, ← List.length_append]
              exact List.take_left
          · have hold : ∀ (j : Nat) (u : Value), cs[j]? = some u → ((some ⟨b, 0, none⟩ : Option Addr).bind fun ad => w.cell? (ad.add j)) = some u := fun j u hj => by
              simp only [Option.bind_some, add_lit, Nat.zero_add]
              exact hrow0.cell j u hj
            obtain ⟨cap', w', hr, ho, hgr, hlt⟩ := AP.grow hys (some ⟨b, 0, none⟩) xs.length g'.cap cs (fun h => by cases h) hcl hold (by omega) hm
            exact fin w.heap.size cap' w' cs (.inr ⟨Nat.le_refl _, hlt⟩) hcl hcE hc1 (by rw [hsl]; exact hr) (Row.of_owns ho) ⟨hgr.os, hgr.tape, hgr.output, hgr.size, fun k hk _ => hgr.block k hk (by simp)⟩

theorem opv_append_own {s x : Operand} {t e sz by_ id ver : Nat} {xs ys : List D} {z : List AV} {y : AV} [S : Slc P t e sz] [Z : Ze P e z] [B : Byt P e by_] (hz : Nat.beq z.length sz = true) (hby : Nat.ble by_ 4096 = true)
    (hs : evT T s = .own id ver) (hO : O[id]? = some (.buf e sz xs ver)) (hx : evT T x = y) (hy : asD y = some (.list ys)) (hsz : ∀ y ∈ ys, y.cells.length = sz) (hm : xs.length + ys.length ≤ 1073741824) :
    OpV P ro ⟨dst, .call { callee := .builtin .append, args := #[s, x], argTypes := #[t, t] }, ty, pos, af, g⟩ T O (.own id (ver + 1)) (O.set id (.buf e sz (xs ++ ys) (ver + 1))) :=
  opv_append_gen hs hO hm fun w F γ a I H => by
    obtain ⟨A, c, news, hxv, hA, hnl, hnews, hn1, hnE⟩ := list_flat (asD_R hy (H.at (x := x) (by simp [Op.operands, Call.operands]) hx)) hsz
    rw [hxv]
    have hnews' : ∀ ad, A = some ad → ∀ (j : Nat) (u : Value), news[j]? = some u → w.cell? (ad.add j) = some u := fun ad h j u hj => by subst h; simpa using hnews j u hj
    refine ⟨news, hnl, hn1, hnE, fun h A0 n c0 hle => by subst h; exact app_none hle, fun hys b n cap cur hh hroom hfit => ?_, fun hys A0 n c0 cs h1 h2 h3 h4 h5 => ?_⟩
    · obtain ⟨ad, rfl⟩ := hA hys
      obtain ⟨ie, hi, hie⟩ := Option.map_eq_some_iff.1 S.info
      subst hie
      exact run_append_room (P := P) w t ty e ie S.und hi b n cap cur hh ad ys.length c news hnl (hnews' ad rfl) hn1 hroom hfit
    · obtain ⟨ad, rfl⟩ := hA hys
      exact app_grow (P := P) (w := w) (t := t) (ty := ty) hz h1 h2 h3 hnl (hnews' ad rfl) (bytes_of h5 hby) (maxLen_of h5) h4

/-! Zeros, so many, appended. -/
end
end Go.Proofs.Ythpiggjclhnkcaa.AM
