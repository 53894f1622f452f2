/- Plain facts about terms and lists; calls with a nil slice; slices that are nil. -/
import Derived.Test.YthpiggjclhnkcaaB7
import Derived.Laws.Strings
namespace Go.Proofs.Ythpiggjclhnkcaa.AM
open Go
set_option linter.unusedVariables false
set_option linter.unusedSimpArgs false

mutual
/-- All numbers are of 64 bits. -/
def Term.fits : Term → Prop
  | .node k n s ks => (-9223372036854775808 ≤ k ∧ k ≤ 9223372036854775807) ∧ (-9223372036854775808 ≤ n ∧ n ≤ 9223372036854775807) ∧ fitss ks
def fitss : List Term → Prop
  | [] => True
  | t :: ts => t.fits ∧ fitss ts
end

def indexOf (l : List Int) (x : Int) : Int := match l.findIdx? (· == x) with | some i => i | none => -1
theorem indexOf_at {l : List Int} {x : Int} {i : Nat} (h : i < l.length) (hx : x = l[i]) (hn : ∀ (j : Nat) (h : j < i), l[j] ≠ x) : indexOf l x = i := by
  have : l.findIdx? (· == x) = some i := by
    rw [List.findIdx?_eq_some_iff_getElem]
    exact ⟨h, by simp [hx], fun j hj => by simpa using hn j hj⟩
  simp [indexOf, this]
theorem indexOf_none {l : List Int} {x : Int} (hn : ∀ (j : Nat) (h : j < l.length), l[j] ≠ x) : indexOf l x = -1 := by
  have : l.findIdx? (· == x) = none := by
    rw [List.findIdx?_eq_none_iff]
    intro y hy
    obtain ⟨j, hj, rfl⟩ := List.getElem_of_mem hy
    simpa using hn j hj
  simp [indexOf, this]
theorem indexOf_mem (l : List Int) (x : Int) : decide (indexOf l x ≥ 0) = decide (x ∈ l) := by
  by_cases h : x ∈ l
  · obtain ⟨i, hi, rfl⟩ := List.getElem_of_mem h
    cases hf : l.findIdx? (· == l[i]) with
    | none => rw [List.findIdx?_eq_none_iff] at hf; have := hf _ h; simp at this
    | some j => simp only [indexOf, hf, h]; simp
  · rw [indexOf_none (fun j hj (e : l[j] = x) => h (e ▸ List.getElem_mem hj))]; simp [h]
theorem ByteArray.ext_list {a b : ByteArray} (h : a.toList = b.toList) : a = b := by
  rw [ByteArray.toList_eq, ByteArray.toList_eq] at h
  cases a; cases b
  simp at h
  rw [h]
mutual
def same : Term → Term → Bool
  | .node k n s ks, .node k' n' s' ks' => k == k' && n == n' && (s.toList == s'.toList) && sames ks ks'
def sames : List Term → List Term → Bool
  | [], [] => true
  | x :: xs, y :: ys => same x y && sames xs ys
  | _, _ => false
end
theorem same_eq (t u : Term) : same t u = (t.kind == u.kind && t.num == u.num && (t.name.toList == u.name.toList) && sames t.kids u.kids) := by cases t; cases u; rfl
mutual
theorem same_iff : ∀ t u : Term, same t u = true ↔ t = u
  | .node k n s ks, .node k' n' s' ks' => by
    simp only [same, Bool.and_eq_true, beq_iff_eq, sames_iff ks ks', Term.node.injEq]
    constructor
    · rintro ⟨⟨⟨h1, h2⟩, h3⟩, h4⟩; exact ⟨h1, h2, ByteArray.ext_list h3, h4⟩
    · rintro ⟨h1, h2, h3, h4⟩; exact ⟨⟨⟨h1, h2⟩, by rw [h3]⟩, h4⟩
theorem sames_iff : ∀ l m : List Term, sames l m = true ↔ l = m
  | [], [] => by simp [sames]
  | [], _ :: _ => by simp [sames]
  | _ :: _, [] => by simp [sames]
  | x :: xs, y :: ys => by simp only [sames, Bool.and_eq_true, same_iff x y, sames_iff xs ys, List.cons.injEq]
end
theorem sames_len {l m : List Term} (h : l.length ≠ m.length) : sames l m = false := by
  cases h' : sames l m with
  | false => rfl
  | true => exact absurd (by rw [(sames_iff l m).1 h']) h
theorem sames_drop {l m : List Term} {i : Nat} (h : i < l.length) (h' : i < m.length) : sames (l.drop i) (m.drop i) = (same l[i] m[i] && sames (l.drop (i + 1)) (m.drop (i + 1))) := by
  rw [drop_get h, drop_get h', sames]
mutual
/-- A term with other variables. -/
def Term.shift (d : Int) : Term → Term
  | .node k n s ks => .node k (if k = 1 then IntKind.i64.wrap (n + d) else n) s (shifts d ks)
def shifts (d : Int) : List Term → List Term
  | [] => []
  | t :: ts => t.shift d :: shifts d ts
end
theorem shifts_map (d : Int) : ∀ l, shifts d l = l.map (Term.shift d)
  | [] => rfl
  | t :: l => by rw [shifts, shifts_map d l]; rfl
theorem shifts_len (d : Int) (l : List Term) : (shifts d l).length = l.length := by rw [shifts_map, List.length_map]
section
variable {P : Program} {ro : Option Nat} {N : Nat} {K : Org} {T : Nat → AV} {O : List AObj} {dst : Option Tmp} {ty : TypeId} {pos : String} {af : Array Edge} {g : Option (Nat × Bool)}
/-- A nil slice is a list without elements. -/
def nz : AV → AV
  | .nil0 => .d (.list [])
  | x => x
theorem nz_V {w : World} {F : Nat → Prop} {γ : List GO} {x : AV} {v : Value} (h : x.V w F γ O v) : (nz x).V w F γ O v := by cases x <;> first | exact h | exact nil0_R h
theorem opv_callZ {c : Operand} {xs : Array Operand} {ts : Array TypeId} {f : FuncId} {ys : List AV} {v : AV} [S : Fnc P f]
    (h : Fn P f ys [] v []) (hc : evT T c = .fn f []) (hx : (xs.toList.map (evT T)).map nz = ys) (hb : AV.bdB.AV.bdsB 0 ys = true) (hv : v.bd 0) :
    OpV P ro ⟨dst, .call { callee := .value c, args := xs, argTypes := ts }, ty, pos, af, g⟩ T O v O := by
  intro w F γ a I H
  refine ⟨fun _ _ => trivial, ?_⟩
  rw [Oper.semAt_eq _ _ _ (fun c h => by cases h)]
  obtain ⟨vs, hrun, hall⟩ := call_entered (P := P) hc rfl H
  rw [hrun]
  refine ⟨(fun h => by cases h), ?_⟩
  rw [List.append_nil] at hall
  have hz : ∀ (l : List AV) (us : List Value), AV.Vs w F γ O l us → AV.Vs w F γ O (l.map nz) us := by
    intro l
    induction l with
    | nil => intro us h; exact h
    | cons x l ih => rintro us ⟨u, us', rfl, h1, h2⟩; exact ⟨u, us', rfl, nz_V h1, ih us' h2⟩
  have hall := hz _ _ hall
  rw [hx] at hall
  refine CallsIn.mono (callsIn_wide.2 (Fn.frame (AV.bds_of0 hb) hv h O w F γ vs I hall) : CallsIn Fence.wide 0 P f _ w _) fun e w' ⟨u, x, F', γ', O', he, hV, I', E, hxv, hO1⟩ => ?_
  subst he; subst hxv; subst hO1
  exact ⟨u, F', γ', rfl, hV, I', E⟩

theorem run_eqnil {x y : Operand} {w : World} {t e : TypeId} [S : Und P t (.slice e)] (A : Option Addr) (n c : Nat) : (do eqGuard .eql t x y (.slice A n c) (.slice none 0 0); binOp .eql t (.slice A n c) (.slice none 0 0) : Sem Value).run P w = .ok (.bool A.isNone) w := by
  have hg : ∀ f : Unit → Sem Value, ((eqGuard .eql t x y (.slice A n c) (.slice none 0 0)) >>= f).run P w = (f ()).run P w := fun f => rfl
  rw [hg]
  simp only [binOp, Op.equal]
  rw [show Op.maxDepth = (Op.maxDepth - 1) + 1 from rfl]
  unfold Op.equalIn
  cases A <;> simp [Sem.run_bind, run_underlying S.h, Result.andThen_ok]
/-- Whether a slice is nil may be asked; what is nil has no elements. -/
theorem Runs.eqnil {id d1 d2 : Nat} {x : Operand} {t yt e ty1 ty2 : TypeId} {p1 p2 : String} {af1 af2 : Array Edge} {xs : List D} {y : Code} {Q : Exit → (Nat → AV) → List AObj → Prop} [S : Und P t (.slice e)] (hx : evT T x = .d (.list xs)) (hd1 : Nat.blt d1 N = true) (hd2 : Nat.blt d2 N = true)
    (h1 : xs = [] → Runs P ro N K y (upd (upd T d1 (.d (.list xs))) d2 (.d (.bool true))) O Q) (h2 : Runs P ro N K y (upd (upd T d1 (.d (.list xs))) d2 (.d (.bool false))) O Q) :
    Runs P ro N K (.seq (.region id #[⟨some d1, .move x, ty1, p1, af1, none⟩, ⟨some d2, .binOp .eql t (.tmp d1) (.const (.slice none 0 0)) yt, ty2, p2, af2, none⟩] false) y) T O Q := fun a w hat => by
  refine wpIn_seq (wpIn_region ?_)
  have hat0 := hat
  obtain ⟨F, γ, I, hT, hs, hdf, E0⟩ := hat0
  have hv : AV.V w F γ O (.d (.list xs)) (a.eval x) := by
    have := evT_V (T := T) (w := w) (F := F) (γ := γ) (O := O) (a := a) (x := x) (fun s hs => by subst hs; exact hT s)
    rw [hx] at this; exact this
  have hat1 : At N K (upd T d1 (.d (.list xs))) O (a.put (some d1) (a.eval x)) w := hat.put I hT hdf E0 (dst := some d1) hd1 hv I (Evo.refl _ _ _ _)
  obtain ⟨A, c, sz, hxe, hc, hA, hE⟩ := (show AV.V w F γ O (.d (.list xs)) (a.eval x) from hv)
  have hd1' : d1 < a.tmps.size := by rw [hs]; simpa [Nat.blt_eq] using hd1
  have hd : (a.put (some d1) (a.eval x)).eval (.tmp d1) = .slice A xs.length c := by
    rw [← hxe]; simp [Act.eval, Act.put, hd1']
  show wpOpsIn (WF ro) 0 P _ _ [0, 1] a w
  simp only [wpOpsIn]
  simp only [List.getElem?_toArray, List.getElem?_cons_zero, List.getElem?_cons_succ, Region.wanted, if_true]
  refine ⟨fun _ _ => trivial, ?_⟩
  rw [Oper.semAt_eq _ _ _ (fun c h => by cases h)]
  show Oper.uponIn _ _ _ _ _ _ _ (.ok (.value (a.eval x)) w)
  refine ⟨fun _ _ => trivial, ?_⟩
  rw [Oper.semAt_eq _ _ _ (fun c h => by cases h)]
  have hrun : (execOp (a.put (some d1) (a.eval x)).eval ⟨some d2, .binOp .eql t (.tmp d1) (.const (.slice none 0 0)) yt, ty2, p2, af2, none⟩).run P w = .ok (.value (.bool A.isNone)) w := by
    simp only [execOp]
    rw [Sem.run_bind]
    have := run_eqnil (P := P) (x := .tmp d1) (y := .const (.slice none 0 0)) (w := w) (t := t) (e := e) A xs.length c
    rw [hd]
    rw [show (a.put (some d1) (a.eval x)).eval (.const (.slice none 0 0)) = .slice none 0 0 from rfl]
    rw [this]
    rfl
  rw [hrun]
  have hat1' := hat1
  obtain ⟨F1, γ1, I1, hT1, hs1, hdf1, E1⟩ := hat1'
  have hat2 : At N K (upd (upd T d1 (.d (.list xs))) d2 (.d (.bool A.isNone))) O ((a.put (some d1) (a.eval x)).put (some d2) (.bool A.isNone)) w := hat1.put I1 hT1 hdf1 E1 (dst := some d2) hd2 (x := .d (.bool A.isNone)) rfl I1 (Evo.refl _ _ _ _)
  cases hA' : A with
  | none =>
    rw [hA'] at hat2
    have hx0 : xs = [] := by
      by_cases h : xs = []
      · exact h
      · obtain ⟨ad, h, _⟩ := hA h; rw [hA'] at h; cases h
    exact h1 hx0 _ _ hat2
  | some ad =>
    rw [hA'] at hat2
    exact h2 _ _ hat2

theorem Runs.nz {c : Code} {Q : Exit → (Nat → AV) → List AObj → Prop} (s : Nat) (hs : T s = .nil0) (h : Runs P ro N K c (upd T s (.d (.list []))) O Q) : Runs P ro N K c T O Q := fun a w hat => by
  obtain ⟨F, γ, I, hT, hsz, hdf, E0⟩ := hat
  refine h a w ⟨F, γ, I, fun s' => ?_, hsz, hdf, E0⟩
  simp only [upd]
  cases hb : Nat.beq s' s with
  | false => exact hT s'
  | true =>
    have := Nat.eq_of_beq_eq_true hb
    subst this
    have h1 := hT s'
    rw [hs] at h1
    exact nil0_R h1
theorem encs_nil {l : List Term} (h : encs l = []) : l = [] := by cases l with | nil => rfl | cons x l => simp [encs] at h
theorem opv_append_terms0 {s : Nat} {x : Operand} {t e by_ : Nat} {m : List Term} {z : List AV} [S : Slc P t e 4] [Z : Ze P e z] [B : Byt P e by_]
    (hs : T s = .nil0) (hx : evT (upd T s (.own O.length 1)) x = .d (.list (encs m))) (hm : m.length ≤ 1073741824) (hz : Nat.beq z.length 4 = true := by rfl) (hby : Nat.ble by_ 4096 = true := by rfl) :
    OpV P ro ⟨dst, .call { callee := .builtin .append, args := #[.tmp s, x], argTypes := #[t, t] }, ty, pos, af, g⟩ T O (.own O.length 2) (O ++ [.buf e 4 (encs m) 2]) := by
  refine OpV.adopt (s := s) e 4 hs ?_ (by simp [Op.operands, Call.operands])
  have := opv_append_terms (P := P) (ro := ro) (T := upd T s (.own O.length 1)) (O := O ++ [.buf e 4 [] 1]) (dst := dst) (ty := ty) (pos := pos) (af := af) (g := g) (t := t) (e := e) (s := .tmp s) (x := x) (id := O.length) (ver := 1) (l := []) (m := m) (by simp [evT, upd]) (by simp [encs]) hx (by simpa using hm) hz hby
  simpa using this
end
end Go.Proofs.Ythpiggjclhnkcaa.AM
