/- From the readings of the arguments to abstract values; the row's step. -/
import Derived.Test.YthpiggjclhnkcaaB9
import Derived.ChangeArms
import Derived.Carry
import Derived.ProofKit
import Derived.JoinedCond
import Derived.OpenShut
import Derived.Test.YthpiggjclhnkcaaRows
namespace Go.Proofs.Ythpiggjclhnkcaa.AM
open Go Go.ChangeShapes Go.WideShapes Go.RowKit
set_option linter.unusedVariables false
set_option linter.unusedSimpArgs false

/-- Where the types of a term, and of a list of terms, stand in the table. -/
class TermTys (P : Program) (tT tL tK tN tS : TypeId) : Prop where
  hT : ∃ f0 f1 f2 f3 : Field, P.underlying tT = some (.struct #[f0, f1, f2, f3]) ∧ f0.offset = 0 ∧ f1.offset = 1 ∧ f2.offset = 2 ∧ f3.offset = 3 ∧ f0.type = tK ∧ f1.type = tN ∧ f2.type = tS ∧ f3.type = tL
  hL : P.underlying tL = some (.slice tT)
  hK : P.underlying tK = some (.int .i64)
  hN : P.underlying tN = some (.int .i64)
  hS : P.underlying tS = some .string
  cT : P.cellsOf tT = 4
  cL : P.cellsOf tL = 1
  cK : P.cellsOf tK = 1
  cN : P.cellsOf tN = 1
  cS : P.cellsOf tS = 1

section
variable {H : Type} {en : TypeId × Value → H} {P : Program} {W : World} {sp : Nat → Bool}

theorem cell_lt {a : Addr} {v : Value} (h : W.cell? a = some v) : a.block < W.heap.size ∧ a.spot = none := by
  unfold World.cell? at h
  split at h
  · rename_i c t f hh
    refine ⟨(Array.getElem?_eq_some_iff.1 hh).1, ?_⟩
    cases hs : a.spot with
    | none => rfl
    | some x => rw [hs] at h; simp at h
  · cases h
theorem cells_get {base : Nat} {a : Addr} {n : Nat} {cs : List Value} (h : W.cells? base a n = some cs) : cs.length = n ∧ ∀ j u, cs[j]? = some u → W.cell? (a.add j) = some u := by
  unfold World.cells? at h
  split at h
  · have hl := mapM_some_length h
    simp only [List.length_range] at hl
    refine ⟨hl, fun j u hj => ?_⟩
    have hjl : j < n := by have := (List.getElem?_eq_some_iff.1 hj).1; omega
    have := mapM_some_get h j j (by simp [hjl])
    rw [this, hj]
  · cases h
theorem int_of_wf {n : Int} (h : (Lit.int .i64 n).wf = true) : -9223372036854775808 ≤ n ∧ n ≤ 9223372036854775807 := by
  simpa [Lit.wf, IntKind.min, IntKind.max, IntKind.signed, IntKind.bits] using h

variable {tT tL tK tN tS : TypeId}
/-- A term's cells, and a list's, as they read. -/
theorem term_of_trod (Y : TermTys P tT tL tK tN tS) : ∀ (n : Nat), (∀ (cs : List Value) (x : DataW H × List MemPlace), DataW.trod en P W 0 sp true n tT cs = some x → ∃ t : Term, D.RC W (fun b => b < W.heap.size) (dcells t) cs ∧ cs.length = 4 ∧ t.bulk ≤ Rows.uptoBulk x.1 ∧ t.fits) ∧
    (∀ (cs : List Value) (x : DataW H × List MemPlace), DataW.trod en P W 0 sp true n tL cs = some x → ∃ (l : List Term) (v : Value), cs = [v] ∧ D.R W (fun b => b < W.heap.size) (.list (encs l)) v ∧ bulks l + 1 ≤ Rows.uptoBulk x.1 ∧ fitss l) := by
  intro n
  induction n with
  | zero => exact ⟨fun cs x h => by simp [DataW.trod] at h, fun cs x h => by simp [DataW.trod] at h⟩
  | succ n ih =>
    constructor
    · intro cs x h
      obtain ⟨f0, f1, f2, f3, hu, o0, o1, o2, o3, t0, t1, t2, t3⟩ := Y.hT
      obtain ⟨xs, m, hm, rfl, hl, hxl, hf⟩ := DataW.trod_struct hu h
      cases hm
      have hl4 : cs.length = 4 := by rw [hl, Y.cT]
      match cs, hl4 with
      | [c0, c1, c2, c3], _ =>
        have e0 := hf 0 f0 rfl
        have e1 := hf 1 f1 rfl
        have e2 := hf 2 f2 rfl
        have e3 := hf 3 f3 rfl
        rw [o0, t0, Y.cK] at e0
        rw [o1, t1, Y.cN] at e1
        rw [o2, t2, Y.cS] at e2
        rw [o3, t3, Y.cL] at e3
        have hxl4 : xs.length = 4 := by rw [hxl]; rfl
        match xs, hxl4 with
        | [x0, x1, x2, x3], _ =>
          obtain ⟨k, h0, rfl, w0⟩ := DataW.trod_int Y.hK e0
          obtain ⟨m, h1, rfl, w1⟩ := DataW.trod_int Y.hN e1
          obtain ⟨s, h2, rfl, w2⟩ := DataW.trod_string Y.hS e2
          obtain ⟨l, v, h3, hR, hb, hft⟩ := ih.2 _ _ e3
          simp only [List.drop_zero, List.drop_succ_cons, List.take_succ_cons, List.take_zero, List.cons.injEq, and_true] at h0 h1 h2 h3
          subst h0; subst h1; subst h2; subst h3
          refine ⟨.node k m s l, ⟨_, _, rfl, rfl, rfl, _, _, rfl, rfl, rfl, _, _, rfl, rfl, rfl, _, _, rfl, rfl, hR, rfl⟩, rfl, ?_, int_of_wf w0, int_of_wf w1, hft⟩
          simp only [Term.bulk, List.map_cons, List.map_nil, Rows.uptoBulk, Rows.uptoBulkAll]
          have e9 : s.data.toList.length = s.size := Array.length_toList
          omega
    · intro cs x h
      rcases DataW.trod_slice Y.hL h with ⟨rfl, rfl⟩ | ⟨a, len, cap, elems, rest, m, hm, rfl, rfl, hb, hlc, hcap, hel, hget, _, _⟩
      · exact ⟨[], _, rfl, ⟨_, _, 0, rfl, Nat.le_refl _, (fun h => absurd rfl h), trivial⟩, by simp [bulks, Rows.uptoBulk], trivial⟩
      · cases hm
        have hblk : 0 < len → a.block < W.heap.size ∧ a.spot = none := by
          intro h0
          have hg := hget 0 h0
          rw [show elems[0]? = some elems[0] from List.getElem?_eq_getElem (by omega), Option.bind_eq_some_iff] at hg
          obtain ⟨cs, hcs, htr⟩ := hg
          obtain ⟨t, q1, q2, q3, q4⟩ := ih.1 _ _ htr
          rw [Y.cT] at hcs
          obtain ⟨hcl, hcell⟩ := cells_get hcs
          have := cell_lt (hcell 0 _ (List.getElem?_eq_getElem (by omega)))
          have e : (a.add (0 * 4)).add 0 = a := by simp [Addr.add]
          rw [e] at this
          exact this
        -- the elements from i on
        have key : ∀ (k i : Nat), i + k = len → ∃ l : List Term, l.length = k ∧ D.RE W (fun b => b < W.heap.size) (fun j => (some a).bind fun ad => W.cell? (ad.add j)) 4 i (encs l) ∧ bulks l ≤ Rows.uptoBulkAll ((elems.drop i).map (·.1)) ∧ fitss l := by
          intro k
          induction k with
          | zero => intro i hi; exact ⟨[], rfl, trivial, by simp [bulks], trivial⟩
          | succ k ihk =>
            intro i hi
            obtain ⟨l, h1, h2, h3, h4⟩ := ihk (i + 1) (by omega)
            have hblk := hblk (by omega)
            have hil : i < elems.length := by omega
            have hg := hget i (by omega)
            rw [show elems[i]? = some elems[i] from List.getElem?_eq_getElem hil, Option.bind_eq_some_iff] at hg
            obtain ⟨cs, hcs, htr⟩ := hg
            obtain ⟨t, q1, q2, q3, q4⟩ := ih.1 _ _ htr
            rw [Y.cT] at hcs
            obtain ⟨hcl, hcell⟩ := cells_get hcs
            refine ⟨t :: l, by simp [h1], ⟨⟨.agg cs.toArray, ?_, ?_, ?_⟩, h2⟩, ?_, ⟨q4, h4⟩⟩
            · rw [enc_d]; exact ⟨cs, rfl, q1⟩
            · simp [Value.cells, q2]
            · intro j u hj
              simp only [Value.cells] at hj
              have := hcell j u (by simpa using hj)
              rw [add_add' a hblk.2] at this
              simpa using this
            · rw [List.drop_eq_getElem_cons hil]
              simp only [List.map_cons, Rows.uptoBulkAll, bulks]
              omega
        obtain ⟨l, h1, h2, h3, h4⟩ := key len 0 (by omega)
        refine ⟨l, _, rfl, ⟨some a, cap, 4, by rw [encs_len, h1], by rw [encs_len, h1]; exact hlc, fun hne => ⟨a, rfl, ?_⟩, h2⟩, ?_, h4⟩
        · have hpos : 0 < len := by
            cases len with
            | zero => cases l with | nil => exact absurd rfl hne | cons x l => simp at h1
            | succ m => exact Nat.succ_pos m
          exact ⟨(hblk hpos).2, (hblk hpos).1⟩
        · simp only [List.drop_zero] at h3
          simp only [Rows.uptoBulk]
          omega

end

theorem open_terms {H : Type} {en : TypeId × Value → H} {P : Program} {W : World} {sp : Nat → Bool} {tT tL tK tN tS : TypeId} (Y : TermTys P tT tL tK tN tS) {v : Value} {d : DataW H} {ps : List MemPlace} (hval : Value.okWide P W .any 0 tL v) (h : DataW.Trod en P W 0 sp true tL v d ps) : ∃ l : List Term, D.R W (fun b => b < W.heap.size) (.list (encs l)) v ∧ bulks l + 1 ≤ Rows.uptoBulk d ∧ fitss l := by
  obtain ⟨a, len, cap, rfl⟩ := okWide_slice Y.hL hval
  obtain ⟨n, hn⟩ := h
  obtain ⟨l, v', h1, h2, h3, h4⟩ := (term_of_trod Y n).2 _ _ hn
  simp only [Value.cells, List.cons.injEq, and_true] at h1
  subst h1
  exact ⟨l, h2, h3, h4⟩
/-- A call that touches none of the objects, at a world as it stands. -/
theorem Fn.at {P : Program} {f : FuncId} {ys : List AV} {v : AV} (h : Fn P f ys [] v []) (W : World) (vs : List Value) (hV : AV.Vs W (fun b => b < W.heap.size) [] [] ys vs) :
    Calls P f vs.toArray W fun e W' => ∃ u F' , e = .returned u ∧ v.V W' F' [] [] u ∧ Below W.heap.size W W' := by
  have I : Inv W (fun b => b < W.heap.size) [] [] := ⟨rfl, fun i o g h => by simp at h, fun i o h => by simp at h, fun i g b h => by simp at h, fun i j g g' b h => by simp at h, fun b h => h⟩
  refine (h W _ [] vs I hV).mono fun e W' ⟨u, x, F', γ', O', he, hx, I', E, hxv, hO⟩ => ?_
  subst hxv; subst hO
  have hγ : γ' = [] := List.eq_nil_of_length_eq_zero (by rw [I'.len]; rfl)
  subst hγ
  exact ⟨u, F', he, hx, E.os, E.tape, E.output, E.size, fun k hk => E.old k hk fun i g h => by simp at h⟩

theorem trodAll_below {H : Type} {en : TypeId × Value → H} {P : Program} (hl : laidOutB P = true) {W W' : World} (hB : Below W.heap.size W W') : ∀ {ts : List TypeId} {vs : List Value} {ds : List (DataW H)} {ps : List MemPlace}, (∀ t ∈ ts, P.readableRec t = true ∧ t < P.types.size) → DataW.TrodAll en P W 0 (fun _ => true) true ts vs ds ps → DataW.TrodAll en P W' 0 (fun b => decide (b < W.heap.size)) true ts vs ds ps
  | [], [], [], _, _, h => h
  | t :: ts, v :: vs, d :: ds, ps, hr, ⟨p, q, h1, h2, e⟩ => by
    have hlt : ∀ x ∈ p, x.block < W.heap.size := fun x hx => by
      obtain ⟨n, hn⟩ := h1
      exact DataW.trod_lt n _ _ _ hn x hx
    exact ⟨p, q, Below.trod hl (hr t (List.mem_cons_self ..)).1 (hr t (List.mem_cons_self ..)).2 h1 hB hlt, trodAll_below hl hB (fun t' ht' => hr t' (List.mem_cons_of_mem _ ht')) h2, e⟩
/-- WHAT A LAW's ROW ASKS: true; each argument reads as it did. -/
theorem post_true {H : Type} {en : TypeId × Value → H} {P : Program} {f : Func} {s : ChangeSpec} {tB : TypeId} (hl : laidOutB P = true) (hrd : ∀ t ∈ f.params.toList, P.readableRec t = true ∧ t < P.types.size) {W W' : World} {args : Array Value} {ds gs : List (DataW H)} {before : List MemPlace}
    (hW : DataW.Whole en P f.params.toList s.vars false W args.toList ds gs before) (hv : s.vars = []) (hB : Below W.heap.size W W') (hres : f.resultTypes = #[tB]) (hb : P.underlying tB = some .bool)
    (hfn : s.fn H (ds ++ gs) = { results := [.lit (.bool true)], args := ds }) : s.post en P f false true false false W args (.bool true) W' := by
  have hW' := hW
  obtain ⟨p, q, hA, hV, rfl, hfz, hnd⟩ := hW
  rw [hv] at hV
  obtain ⟨rfl, rfl⟩ := trodVars_none hV
  refine ⟨ds, [], _, [], p, [], hW', ?_, ?_, ?_, hB.frame _, fun h => by cases h⟩
  · rw [hfn, hres]; exact trodAll_cons_mk (shut_bool hb _) trodAll_mk0
  · rw [hfn]; exact trodAll_below hl hB hrd hA
  · rw [hfn, hv]; rfl
end Go.Proofs.Ythpiggjclhnkcaa.AM
