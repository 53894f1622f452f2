/- A rule for each operation: what makes memory, what writes it. -/
import Derived.Test.YthpiggjclhnkcaaA4
import Derived.Laws.Tables
namespace Go.Proofs.Ythpiggjclhnkcaa.AM
open Go
set_option linter.unusedVariables false
set_option linter.unusedSimpArgs false

def Program.placesOf (P : Program) (t : TypeId) : Option (List (Nat × Nat)) :=
  match P.underlying t with
  | some (.struct fs) => fs.toList.mapM fun f => (P.info? f.type).map fun i => (f.offset, i.size)
  | _ => none
class Strc (P : Program) (t : TypeId) (places : outParam (List (Nat × Nat))) : Prop where
  h : Program.placesOf P t = some places
class Ze (P : Program) (t : TypeId) (z : outParam (List AV)) : Prop where
  h : ∃ v : Value, (P.info? t).bind (·.zero) = some v ∧ v.cells.toList.map constAV = z ∧ z.all AV.one = true

section
variable {P : Program} {ro : Option Nat} {T : Nat → AV} {O : List AObj} {dst : Option Tmp} {ty : TypeId} {pos : String} {af : Array Edge} {g : Option (Nat × Bool)}

theorem zero_VC {w : World} {F : Nat → Prop} {γ : List GO} : ∀ (l : List Value), (l.map constAV).all AV.one = true → AV.VC w F γ O (l.map constAV) l
  | [], _ => rfl
  | v :: l, h => by
    simp only [List.map_cons, List.all_cons, Bool.and_eq_true] at h
    exact ⟨v, l, rfl, h.1, constAV_V v, zero_VC l h.2⟩

/-- A new block of cells that the call may write. -/
theorem box_ok {w : World} {F : Nat → Prop} {γ : List GO} (I : Inv w F γ O) {cs : List AV} {us : List Value} (t : TypeId) (hc : AV.VC w F γ O cs us) :
    ∃ γ', AV.V (w.alloc (.cells us.toArray t)) F γ' (O ++ [.cells cs]) (.ref O.length 0) (.pointer (some ⟨w.heap.size, 0, none⟩)) ∧ Inv (w.alloc (.cells us.toArray t)) F γ' (O ++ [.cells cs]) ∧
      Evo w F γ O (w.alloc (.cells us.toArray t)) F γ' (O ++ [.cells cs]) := by
  have hb : AV.bds O.length cs := AV.VC_bd I cs us hc
  obtain ⟨I', E⟩ := I.push (w' := w.alloc (.cells us.toArray t)) (.cells cs) { blk := some w.heap.size } rfl rfl rfl (by simp) (fun b hb' => heap_alloc_old w _ hb')
    (fun b hb' => by cases hb'; simp) (AV.bds_mono (Nat.le_succ _) cs hb) fun E => ⟨w.heap.size, us, t, rfl, heap_alloc_new w _, AV.VC_evo I E (by simp [I.len]) cs us hc⟩
  refine ⟨_, ⟨rfl, { blk := some w.heap.size }, .cells cs, ?_, ?_, w.heap.size, rfl, rfl⟩, I', E⟩
  · rw [← I.len]; simp
  · simp

theorem opv_box {x : Operand} {t : TypeId} {v : AV} {cs : List AV} (hx : evT T x = v) (hv : cellsOf v = some cs) : OpV P ro ⟨dst, .box t x, ty, pos, af, g⟩ T O (.ref O.length 0) (O ++ [.cells cs]) :=
  OpV.of_run (fun c h => by cases h) fun w F γ a I H => by
    have h1 := H.at (x := x) (by simp [Op.operands]) hx
    obtain ⟨γ', h2, h3, h4⟩ := box_ok I t (cellsOf_VC hv h1)
    exact ⟨_, _, F, γ', .inl (by simp [execOp, Instr.box, newVar, newRow]), h2, h3, h4⟩
theorem opv_alloc {t : TypeId} {cs : List AV} [Z : Ze P t cs] : OpV P ro ⟨dst, .alloc t, ty, pos, af, g⟩ T O (.ref O.length 0) (O ++ [.cells cs]) :=
  OpV.of_run (fun c h => by cases h) fun w F γ a I H => by
    obtain ⟨z, hz, he, ho⟩ := Z.h
    obtain ⟨i, hi, hz⟩ := Option.bind_eq_some_iff.1 hz
    have hc : AV.VC w F γ O cs z.cells.toList := by rw [← he] at ho ⊢; exact zero_VC _ ho
    obtain ⟨γ', h2, h3, h4⟩ := box_ok I t hc
    refine ⟨_, _, F, γ', .inl ?_, h2, h3, h4⟩
    simp [execOp, Instr.alloc, zeroValue, typeInfo, hi, hz, newVar, newRow]

/-! Stores. -/
def setAV (cs : List AV) (off : Nat) (vs : List AV) : List AV := cs.take off ++ (vs ++ cs.drop (off + vs.length))
def AV.bdB (n : Nat) : AV → Bool
  | .d _ | .nil0 | .nilf => true
  | .own id _ | .ref id _ | .mp id | .yld id => Nat.blt id n
  | .fn _ caps => AV.bdsB n caps
  | _ => false
  where AV.bdsB (n : Nat) : List AV → Bool
  | [] => true
  | c :: cs => AV.bdB n c && AV.bdsB n cs
mutual
theorem AV.bd_of_B {n : Nat} : ∀ (x : AV), AV.bdB n x = true → x.bd n
  | .d _, h => trivial
  | .nil0, h => trivial
  | .nilf, h => trivial
  | .own id _, h => show id < n from by simpa [AV.bdB, Nat.blt_eq] using h
  | .ref id _, h => show id < n from by simpa [AV.bdB, Nat.blt_eq] using h
  | .mp id, h => show id < n from by simpa [AV.bdB, Nat.blt_eq] using h
  | .yld id, h => show id < n from by simpa [AV.bdB, Nat.blt_eq] using h
  | .oel _ _ _ _, h => by cases h
  | .osl _ _ _ _, h => by cases h
  | .fn f caps, h => AV.bds_of_B caps (by simpa [AV.bdB] using h)
  | .tup _, h => by cases h
  | .agg _, h => by cases h
  | .unk, h => trivial
theorem AV.bds_of_B {n : Nat} : ∀ (xs : List AV), AV.bdB.AV.bdsB n xs = true → AV.bds n xs
  | [], _ => trivial
  | c :: cs, h => by
    simp only [AV.bdB.AV.bdsB, Bool.and_eq_true] at h
    exact ⟨AV.bd_of_B c h.1, AV.bds_of_B cs h.2⟩
end
theorem bds_append {n : Nat} : ∀ (a b : List AV), AV.bds n a → AV.bds n b → AV.bds n (a ++ b)
  | [], b, _, h => h
  | x :: a, b, h, k => ⟨h.1, bds_append a b h.2 k⟩
theorem bds_take {n : Nat} : ∀ (k : Nat) (a : List AV), AV.bds n a → AV.bds n (a.take k)
  | 0, a, h => trivial
  | k + 1, [], h => trivial
  | k + 1, x :: a, h => ⟨h.1, bds_take k a h.2⟩
theorem bds_drop {n : Nat} : ∀ (k : Nat) (a : List AV), AV.bds n a → AV.bds n (a.drop k)
  | 0, a, h => h
  | k + 1, [], h => trivial
  | k + 1, x :: a, h => bds_drop k a h.2

theorem opv_store_ref {p x : Operand} {t id off n : Nat} {ag : Bool} {cs vs : List AV} {v : AV} [S : Sz P t n ag] (hp : evT T p = .ref id off) (hO : O[id]? = some (.cells cs)) (hx : evT T x = v) (hv : cellsOf v = some vs)
    (hn : vs.length = n) (hl : off + n ≤ cs.length) (hb : AV.bdB.AV.bdsB (id + 1) vs = true) :
    OpV P ro ⟨dst, .store t p x, ty, pos, af, g⟩ T O .unk (O.set id (.cells (setAV cs off vs))) :=
  OpV.of_run (fun c h => by cases h) fun w F γ a I H => by
    have h1 := H.at (x := p) (by simp [Op.operands]) hp
    have h2 := cellsOf_VC hv (H.at (x := x) (by simp [Op.operands]) hx)
    obtain ⟨g', b, hg, hb', hpp⟩ := refAt_val hO h1.2
    obtain ⟨b', us, t', e1, e2, e3⟩ := I.ok id _ g' hO hg
    rw [hb'] at e1; cases e1
    have hus := VC_length cs us e3
    have hvs := VC_length vs _ h2
    have hone := VC_one vs _ h2
    have hst := run_storeCells_at P b off t' (a.eval x).cells.toList 0 us.toArray w e2 (by simp at hvs ⊢; omega) hone
    obtain ⟨ns, hns⟩ : ∃ ns, ns = us.take off ++ ((a.eval x).cells.toList ++ us.drop (off + (a.eval x).cells.toList.length)) := ⟨_, rfl⟩
    have hst' : (storeCells ⟨b, off, none⟩ (a.eval x).cells.toList).run P w = .ok () (w.setRow b ns.toArray) := by
      rw [hns]; rw [hst]; simp [List.append_assoc]
    have hrun : (execOp a.eval ⟨dst, .store t p x, ty, pos, af, g⟩).run P w = .ok .skip (w.setRow b ns.toArray) := by
      have hs : (a.eval x).cells.size = n := by rw [← hn, ← hvs]; simp
      simp only [execOp, Instr.storeAt, hpp, Instr.sureAddr, storeVar]
      simp [S.run_size, hs, hst']
    obtain ⟨hlt, hnf⟩ := I.blks id g' b hg hb'
    obtain ⟨I', E⟩ := I.upd (w' := w.setRow b ns.toArray) (F' := F) (o' := .cells (setAV cs off vs)) (g' := g') hO hg
      rfl rfl rfl (by simp) (fun c hc hne => setRow_other w b c _ (fun e => hne (by rw [e]; exact hb'))) (fun c hc => .inl hc) (fun c hc => by rw [hb'] at hc; cases hc; exact ⟨by simpa using hlt, hnf⟩)
      (fun _ h => h) (fun _ h => .inl h) (by simp [Stab]) (bds_append _ _ (bds_take _ _ (I.bd id _ hO)) (bds_append _ _ (AV.bds_of_B vs hb) (bds_drop _ _ (I.bd id _ hO))))
      fun E => ⟨b, ns, t', hb', setRow_heap w b us.toArray _ t' (0, 0) e2, by
        rw [hns]
        have k1 := AV.VC_evo I E (by simp [I.len]) cs us e3
        have k2 := AV.VC_evo I E (by simp [I.len]) _ _ h2
        rw [hns] at k1 k2
        refine VC_append _ _ _ _ (VC_take off _ _ k1) (VC_append _ _ _ _ k2 ?_)
        rw [hvs]
        exact VC_drop _ _ _ (by rw [hvs] at k1; exact k1)⟩
    exact ⟨undef, _, F, _, .inr ⟨hrun, rfl⟩, trivial, I', E⟩

/-! Literals of structs and slices. -/
def fillAV (places : List (Nat × Nat)) : List AV → List (Nat × AV) → Option (List AV)
  | cs, [] => some cs
  | cs, (i, x) :: rest =>
    match places[i]?, cellsOf x with
    | some (off, size), some vs => if vs.length = size ∧ off + vs.length ≤ cs.length then fillAV places (setAV cs off vs) rest else none
    | _, _ => none
theorem foldl_set (off : Nat) : ∀ (vs : List Value) (k : Nat) (cs : Array Value), off + k + vs.length ≤ cs.size →
    ((vs.zipIdx k).foldl (fun cs (x : Value × Nat) => cs.setIfInBounds (off + x.2) x.1) cs) = (cs.toList.take (off + k) ++ vs ++ cs.toList.drop (off + k + vs.length)).toArray
  | [], k, cs, _ => by simp
  | v :: rest, k, cs, h => by
    simp only [List.zipIdx_cons, List.foldl_cons]
    rw [foldl_set off rest (k + 1) _ (by simp at h ⊢; omega)]
    have e := list_seg_step cs.toList (off + k) v rest (by simp at h ⊢; omega)
    congr 1
    simpa [Array.toList_setIfInBounds, Nat.add_assoc] using e
theorem fillAV_ok {w : World} {F : Nat → Prop} {γ : List GO} {places : List (Nat × Nat)} : ∀ (parts : List (Nat × AV)) (vals : List (Nat × Value)) (cs : List AV) (us : List Value) (r : List AV),
    AV.VC w F γ O cs us → parts.map Prod.fst = vals.map Prod.fst → (∀ (j : Nat) (p : Nat × AV) (q : Nat × Value), parts[j]? = some p → vals[j]? = some q → p.2.V w F γ O q.2) → fillAV places cs parts = some r →
    ∃ rs : List Value, Instr.fill (places.toArray[·]?) us.toArray vals = some rs.toArray ∧ AV.VC w F γ O r rs
  | [], [], cs, us, r, hc, _, _, h => by cases h; exact ⟨us, rfl, hc⟩
  | [], _ :: _, cs, us, r, hc, h, _, _ => by cases h
  | _ :: _, [], cs, us, r, hc, h, _, _ => by cases h
  | (i, x) :: parts, (j, v) :: vals, cs, us, r, hc, he, hV, h => by
    simp only [List.map_cons, List.cons.injEq] at he
    obtain ⟨rfl, he⟩ := he
    have hxv := hV 0 _ _ rfl rfl
    simp only [fillAV] at h
    cases hp : places[i]? with
    | none => simp [hp] at h
    | some q =>
      obtain ⟨off, size⟩ := q
      cases hx : cellsOf x with
      | none => simp [hp, hx] at h
      | some vs =>
        simp only [hp, hx] at h
        split at h
        · rename_i hh
          have h2 := cellsOf_VC hx hxv
          have hl := VC_length vs _ h2
          have hul := VC_length cs us hc
          have hsz : v.cells.size = vs.length := by rw [← hl]; simp
          obtain ⟨rs, e1, e2⟩ := fillAV_ok parts vals (setAV cs off vs) (us.take off ++ (v.cells.toList ++ us.drop (off + vs.length))) r
            (VC_append _ _ _ _ (VC_take off cs us hc) (VC_append _ _ _ _ h2 (VC_drop _ cs us hc))) he (fun j p q h1 h2 => hV (j + 1) p q h1 h2) h
          refine ⟨rs, ?_, e2⟩
          have hz : v.cells.zipIdx.foldl (fun cs (x : Value × Nat) => cs.setIfInBounds (off + x.2) x.1) us.toArray = (us.take off ++ (v.cells.toList ++ us.drop (off + vs.length))).toArray := by
            have := foldl_set off v.cells.toList 0 us.toArray (by simp; omega)
            rw [← Array.foldl_toList, Array.toList_zipIdx]
            rw [this]
            simp [hl, List.append_assoc, hsz]
          simp only [Instr.fill]
          simp only [List.getElem?_toArray, hp]
          rw [if_neg (by simp [hsz, hh.1]; omega)]
          rw [← e1]
          congr 1
          funext x; simp
        · cases h
theorem opv_build {t : TypeId} {parts : Array (Nat × Operand)} {places : List (Nat × Nat)} {z cs : List AV} [S : Strc P t places] [Z : Ze P t z] (h : fillAV places z (parts.toList.map fun p => (p.1, evT T p.2)) = some cs) :
    OpV P ro ⟨dst, .build t parts, ty, pos, af, g⟩ T O (mkAgg cs) O :=
  OpV.of_same (fun c h => by cases h) fun w F γ a I H => by
    obtain ⟨zv, hz, he, ho⟩ := Z.h
    obtain ⟨i, hi, hz⟩ := Option.bind_eq_some_iff.1 hz
    have hc : AV.VC w F γ O z zv.cells.toList := by rw [← he] at ho ⊢; exact zero_VC _ ho
    obtain ⟨rs, e1, e2⟩ := fillAV_ok (parts.toList.map fun p => (p.1, evT T p.2)) (parts.toList.map fun p => (p.1, a.eval p.2)) z zv.cells.toList cs hc (by simp) (fun j p q h1 h2 => by
      rw [List.getElem?_map] at h1 h2
      cases hj : parts.toList[j]? with
      | none => simp [hj] at h1
      | some y =>
        simp only [hj, Option.map_some, Option.some.injEq] at h1 h2
        subst h1; subst h2
        have hmem : y ∈ parts.toList := List.mem_of_getElem? hj
        exact H.at (x := y.2) (by simp only [Op.operands]; simp only [List.mem_toArray, List.mem_map]; exact ⟨y, hmem, rfl⟩) rfl) h
    refine ⟨.agg rs.toArray, ?_, mkAgg_V e2⟩
    have hpl := S.h
    unfold Program.placesOf at hpl
    have hb : P.built t ((parts.map fun x => (x.1, a.eval x.2)).toList) = some rs.toArray := by
      unfold Program.built
      rw [hi]
      cases hu : P.underlying t with
      | none => rw [hu] at hpl; cases hpl
      | some d =>
        rw [hu] at hpl
        cases d <;> first | cases hpl | (simp only [hz, hpl]; simpa using e1)
    have := run_build (P := P) w t (parts.map fun x => (x.1, a.eval x.2)) rs.toArray hb
    simp only [execOp, Sem.run_bind, this, Result.andThen_ok]
    rfl
end
end Go.Proofs.Ythpiggjclhnkcaa.AM
