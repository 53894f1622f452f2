/- Abstract values and objects; what they say of a world; how a world may go on. -/
import Derived.Test.YthpiggjclhnkcaaA0
namespace Go.Proofs.Ythpiggjclhnkcaa.AM
open Go
set_option linter.unusedVariables false
set_option linter.unusedSimpArgs false

inductive AV where
  | d (x : D)
  | nil0
  | nilf
  | own (id ver : Nat)
  | ref (id off : Nat)
  | oel (id ver i off : Nat)
  | osl (id ver off n : Nat)
  | mp (id : Nat)
  | yld (id : Nat)
  | fn (f : Nat) (caps : List AV)
  | tup (xs : List AV)
  | agg (cs : List AV)
  | unk

def AV.one : AV → Bool
  | .d x => x.one
  | .agg _ | .tup _ | .unk => false
  | _ => true

inductive AObj where
  | cells (cs : List AV)
  | buf (e sz : Nat) (xs : List D) (ver : Nat)
  | mapo (es : List (D × D))
  | loopo (T : Nat → AV) (N : Nat) (ps : Array Tmp) (assign body : Code) (st : LoopState) (pend : Option Code)
  | dfro
  | vbuf (e : Nat) (xs : List AV)
  | dead

/-- What is known of an object beside its content: its block, and, of a buffer, its capacity and its elements' size. -/
structure GO where
  blk : Option Nat
  cap : Nat := 0
  base : Option Addr := none

def GO.slice (g : GO) (n : Nat) : Value := .slice (match g.blk with | some b => some ⟨b, 0, none⟩ | none => g.base) n g.cap

/-- An object's kind and version as a value over it may ask. -/
def ownAt (O : List AObj) (γ : List GO) (id ver : Nat) (P : GO → Nat → List D → Prop) : Prop :=
  ∃ g o, γ[id]? = some g ∧ O[id]? = some o ∧ match o with
    | .buf _ sz xs v => ver ≤ v ∧ (ver = v → P g sz xs)
    | .vbuf _ xs => ver ≤ 0 ∧ (ver = 0 → P g 1 (xs.map fun _ => .nilp))
    | .dead => True
    | _ => False
def refAt (O : List AObj) (γ : List GO) (id : Nat) (P : Nat → Prop) : Prop :=
  ∃ g o, γ[id]? = some g ∧ O[id]? = some o ∧ match o with
    | .cells _ => ∃ b, g.blk = some b ∧ P b
    | .vbuf _ _ => ∃ b, g.blk = some b ∧ P b
    | .dead => True
    | _ => False
def mapAt (O : List AObj) (γ : List GO) (id : Nat) (P : Nat → Prop) : Prop :=
  ∃ g o, γ[id]? = some g ∧ O[id]? = some o ∧ match o with
    | .mapo _ => ∃ b, g.blk = some b ∧ P b
    | .dead => True
    | _ => False
def loopAt (O : List AObj) (γ : List GO) (id : Nat) (P : Nat → Prop) : Prop :=
  ∃ g o, γ[id]? = some g ∧ O[id]? = some o ∧ match o with
    | .loopo .. => ∃ b, g.blk = some b ∧ P b
    | .dead => True
    | _ => False

mutual
def AV.V (w : World) (F : Nat → Prop) (γ : List GO) (O : List AObj) : AV → Value → Prop
  | .d x, v => x.R w F v
  | .nil0, v => ∃ A, v = .slice A 0 0
  | .nilf, v => v = .nilFunc
  | .own id ver, v => v.oneCell' = true ∧ ownAt O γ id ver fun g _ xs => v = g.slice xs.length
  | .ref id off, v => v.oneCell' = true ∧ refAt O γ id fun b => v = .pointer (some ⟨b, off, none⟩)
  | .oel id ver i off, v => v.oneCell' = true ∧ ownAt O γ id ver fun g sz xs => ∃ b, g.blk = some b ∧ v = .pointer (some ⟨b, i * sz + off, none⟩)
  | .osl id ver off n, v => v.oneCell' = true ∧ ownAt O γ id ver fun g sz xs => off + n ≤ xs.length ∧ ∃ (A : Option Addr) (c : Nat), v = .slice A n c ∧ n ≤ c ∧ (n ≠ 0 → ∃ b, g.blk = some b ∧ A = some ⟨b, off * sz, none⟩)
  | .mp id, v => v.oneCell' = true ∧ mapAt O γ id fun b => v = .map (some b)
  | .yld id, v => v.oneCell' = true ∧ loopAt O γ id fun b => v = .func (.yield b) #[] #[]
  | .fn f caps, v => ∃ us : List Value, v = .func (.func f) #[] us.toArray ∧ AV.Vs w F γ O caps us
  | .tup xs, v => ∃ us : List Value, v = .tuple us.toArray ∧ AV.Vs w F γ O xs us
  | .agg cs, v => ∃ us : List Value, v = .agg us.toArray ∧ AV.VC w F γ O cs us
  | .unk, _ => True
def AV.Vs (w : World) (F : Nat → Prop) (γ : List GO) (O : List AObj) : List AV → List Value → Prop
  | [], us => us = []
  | c :: cs, us => ∃ u us', us = u :: us' ∧ AV.V w F γ O c u ∧ AV.Vs w F γ O cs us'
def AV.VC (w : World) (F : Nat → Prop) (γ : List GO) (O : List AObj) : List AV → List Value → Prop
  | [], us => us = []
  | c :: cs, us => ∃ u us', us = u :: us' ∧ c.one = true ∧ AV.V w F γ O c u ∧ AV.VC w F γ O cs us'
end

mutual
/-- All objects that a value names are below n. -/
def AV.bd (n : Nat) : AV → Prop
  | .d _ | .nil0 | .nilf | .unk => True
  | .own id _ | .ref id _ | .oel id _ _ _ | .osl id _ _ _ | .mp id | .yld id => id < n
  | .fn _ caps => AV.bds n caps
  | .tup xs => AV.bds n xs
  | .agg cs => AV.bds n cs
def AV.bds (n : Nat) : List AV → Prop
  | [] => True
  | c :: cs => AV.bd n c ∧ AV.bds n cs
end
def AObj.bd (n : Nat) : AObj → Prop
  | .cells cs => AV.bds n cs
  | .vbuf _ cs => AV.bds n cs
  | .loopo T N _ _ _ _ _ => ∀ s, s < N → (T s).bd n
  | _ => True

def MapRel (w : World) (F : Nat → Prop) (es : List (D × D)) (ents : Array MapEntry) : Prop :=
  ents.size = es.length ∧ ∀ (i : Nat) (k x : D), es[i]? = some (k, x) → ∃ e : MapEntry, ents[i]? = some e ∧ D.R w F k e.key ∧ D.R w F x e.val

/-- A row of n elements of sz cells: its block has room for cap of them, at least. -/
def Row (w : World) (b e sz cap n : Nat) (cs : List Value) : Prop :=
  cs.length = n * sz ∧ n ≤ cap ∧ cap ≤ maxLen ∧ ∃ cur : Array Value, w.heap[b]? = some (.cells cur e (0, 0)) ∧ cap * sz ≤ cur.size ∧ cur.toList.take (n * sz) = cs

def OkObj (w : World) (F : Nat → Prop) (γ : List GO) (O : List AObj) : AObj → GO → Prop
  | .cells cs, g => ∃ (b : Nat) (us : List Value) (t : TypeId), g.blk = some b ∧ w.heap[b]? = some (.cells us.toArray t (0, 0)) ∧ AV.VC w F γ O cs us
  | .buf e sz xs vr, g => (g.blk = none ∧ xs = [] ∧ g.cap = 0 ∧ (vr = 0 → g.base = none)) ∨ ∃ (b : Nat) (cs : List Value), g.blk = some b ∧ Row w b e sz g.cap xs.length cs ∧ (∀ u ∈ cs, u.oneCell' = true) ∧ D.RE w F (fun k => cs[k]?) sz 0 xs ∧ 0 < vr
  | .mapo es, g => ∃ (b : Nat) (ents : Array MapEntry) (clock : Nat), g.blk = some b ∧ w.heap[b]? = some (.map ents clock) ∧ MapRel w F es ents
  | .loopo T N ps assign body st pend, g => ∃ (b : Nat) (fn : FuncId) (tmps : Array Value) (df : Nat), g.blk = some b ∧
      w.heap[b]? = some (.loop { state := st, pending := pend, fn, tmps, params := ps, assign, body, defers := df }) ∧ tmps.size = N ∧ ∀ s, s < N → AV.V w F γ O (T s) (tmps.getD s undef)
  | .dfro, g => ∃ b, g.blk = some b ∧ w.heap[b]? = some (.deferred (some []))
  | .vbuf e xs, g => ∃ (b : Nat) (us : List Value), g.blk = some b ∧ Row w b e 1 g.cap us.length us ∧ AV.VC w F γ O xs us
  | .dead, g => g.blk = none

structure Inv (w : World) (F : Nat → Prop) (γ : List GO) (O : List AObj) : Prop where
  len : γ.length = O.length
  ok : ∀ (i : Nat) (o : AObj) (g : GO), O[i]? = some o → γ[i]? = some g → OkObj w F γ O o g
  bd : ∀ (i : Nat) (o : AObj), O[i]? = some o → o.bd (i + 1)
  blks : ∀ (i : Nat) (g : GO) (b : Nat), γ[i]? = some g → g.blk = some b → b < w.heap.size ∧ ¬ F b
  inj : ∀ (i j : Nat) (g g' : GO) (b : Nat), γ[i]? = some g → γ[j]? = some g' → g.blk = some b → g'.blk = some b → i = j
  fr : ∀ b, F b → b < w.heap.size

/-- How one object may go on. -/
def Stab (o o' : AObj) (g g' : GO) : Prop :=
  match o, o' with
  | _, .dead => True
  | .buf e sz xs v, .buf e' sz' xs' v' => e = e' ∧ sz = sz' ∧ (v < v' ∨ (v = v' ∧ g = g' ∧ xs.length = xs'.length))
  | .cells _, .cells _ => g.blk = g'.blk
  | .mapo _, .mapo _ => g.blk = g'.blk
  | .loopo .., .loopo .. => g.blk = g'.blk
  | .dfro, .dfro => g.blk = g'.blk
  | .vbuf e xs, .vbuf e' xs' => g = g' ∧ xs.length = xs'.length
  | _, _ => False

structure Evo (w : World) (F : Nat → Prop) (γ : List GO) (O : List AObj) (w' : World) (F' : Nat → Prop) (γ' : List GO) (O' : List AObj) : Prop where
  os : w'.os = w.os
  tape : w'.tape = w.tape
  output : w'.output = w.output
  size : w.heap.size ≤ w'.heap.size
  old : ∀ b, b < w.heap.size → (∀ (i : Nat) (g : GO), γ[i]? = some g → g.blk ≠ some b) → w'.heap[b]? = w.heap[b]?
  mine : ∀ (i : Nat) (g : GO) (b : Nat), γ'[i]? = some g → g.blk = some b → (∃ (j : Nat) (g' : GO), γ[j]? = some g' ∧ g'.blk = some b) ∨ w.heap.size ≤ b
  frm : ∀ b, F b → F' b
  frn : ∀ b, b < w.heap.size → F' b → F b ∨ ∃ (j : Nat) (g' : GO), γ[j]? = some g' ∧ g'.blk = some b
  stab : ∀ (i : Nat) (o o' : AObj) (g g' : GO), O[i]? = some o → γ[i]? = some g → O'[i]? = some o' → γ'[i]? = some g' → Stab o o' g g'
  len : O.length ≤ O'.length

theorem Stab.refl (o : AObj) (g : GO) : Stab o o g g := by cases o <;> simp [Stab]
theorem Stab.trans {o o1 o2 : AObj} {g g1 g2 : GO} (h : Stab o o1 g g1) (k : Stab o1 o2 g1 g2) : Stab o o2 g g2 := by
  cases o2 with
  | dead => cases o <;> exact trivial
  | cells c => cases o1 <;> first | (exfalso; exact k) | (cases o <;> first | (exfalso; exact h) | (simp only [Stab] at h k ⊢; rw [h, k]))
  | mapo c => cases o1 <;> first | (exfalso; exact k) | (cases o <;> first | (exfalso; exact h) | (simp only [Stab] at h k ⊢; rw [h, k]))
  | dfro => cases o1 <;> first | (exfalso; exact k) | (cases o <;> first | (exfalso; exact h) | (simp only [Stab] at h k ⊢; rw [h, k]))
  | vbuf e c => cases o1 <;> first | (exfalso; exact k) | (cases o <;> first | (exfalso; exact h) | (simp only [Stab] at h k ⊢; exact ⟨h.1.trans k.1, h.2.trans k.2⟩))
  | loopo => cases o1 <;> first | (exfalso; exact k) | (cases o <;> first | (exfalso; exact h) | (simp only [Stab] at h k ⊢; rw [h, k]))
  | buf e2 s2 xs2 v2 =>
    cases o1 <;> first
      | (exfalso; exact k)
      | (cases o <;> first
        | (exfalso; exact h)
        | (simp only [Stab] at h k ⊢
           obtain ⟨rfl, rfl, h⟩ := h
           obtain ⟨rfl, rfl, k⟩ := k
           refine ⟨rfl, rfl, ?_⟩
           rcases h with h | ⟨rfl, rfl, h⟩ <;> rcases k with k | ⟨rfl, rfl, k⟩
           · left; omega
           · left; omega
           · left; omega
           · right; exact ⟨rfl, rfl, h.trans k⟩))

theorem Evo.refl (w : World) (F : Nat → Prop) (γ : List GO) (O : List AObj) : Evo w F γ O w F γ O :=
  ⟨rfl, rfl, rfl, Nat.le_refl _, fun _ _ _ => rfl, fun i g b h1 h2 => .inl ⟨i, g, h1, h2⟩, fun _ h => h, fun _ _ h => .inl h,
    fun i o o' g g' h1 h2 h3 h4 => by rw [h1] at h3; rw [h2] at h4; cases h3; cases h4; exact Stab.refl _ _, Nat.le_refl _⟩

theorem Evo.trans {w w1 w2 : World} {F F1 F2 : Nat → Prop} {γ γ1 γ2 : List GO} {O O1 O2 : List AObj} (hl1 : γ1.length = O1.length)
    (h : Evo w F γ O w1 F1 γ1 O1) (k : Evo w1 F1 γ1 O1 w2 F2 γ2 O2) : Evo w F γ O w2 F2 γ2 O2 := by
  have hnot : ∀ b, b < w.heap.size → (∀ (i : Nat) (g : GO), γ[i]? = some g → g.blk ≠ some b) → ∀ (i : Nat) (g : GO), γ1[i]? = some g → g.blk ≠ some b := by
    intro b hb hn i g hg he
    rcases h.mine i g b hg he with ⟨j, g', h1, h2⟩ | h1
    · exact hn j g' h1 h2
    · omega
  refine ⟨k.os.trans h.os, k.tape.trans h.tape, k.output.trans h.output, Nat.le_trans h.size k.size, ?_, ?_, fun b hb => k.frm b (h.frm b hb), ?_, ?_, Nat.le_trans h.len k.len⟩
  · intro b hb hn
    rw [k.old b (Nat.lt_of_lt_of_le hb h.size) (hnot b hb hn), h.old b hb hn]
  · intro i g b hg hb
    rcases k.mine i g b hg hb with ⟨j, g', h1, h2⟩ | h1
    · exact h.mine j g' b h1 h2
    · exact .inr (Nat.le_trans h.size h1)
  · intro b hb hF
    rcases k.frn b (Nat.lt_of_lt_of_le hb h.size) hF with h1 | ⟨j, g', h1, h2⟩
    · exact h.frn b hb h1
    · rcases h.mine j g' b h1 h2 with h3 | h3
      · exact .inr h3
      · omega
  · intro i o o' g g' h1 h2 h3 h4
    have hi : i < O1.length := Nat.lt_of_lt_of_le (List.getElem?_eq_some_iff.1 h1).1 h.len
    obtain ⟨o1, ho1⟩ : ∃ o1, O1[i]? = some o1 := ⟨_, List.getElem?_eq_getElem hi⟩
    obtain ⟨g1, hg1⟩ : ∃ g1, γ1[i]? = some g1 := ⟨_, List.getElem?_eq_getElem (by omega)⟩
    exact (h.stab i o o1 g g1 h1 h2 ho1 hg1).trans (k.stab i o1 o' g1 g' ho1 hg1 h3 h4)

section mono
variable {w w' : World} {F F' : Nat → Prop} {γ γ' : List GO} {O O' : List AObj}

theorem Evo.keep (I : Inv w F γ O) (E : Evo w F γ O w' F' γ' O') : ∀ b, F b → w'.heap[b]? = w.heap[b]? :=
  fun b hb => E.old b (I.fr b hb) fun i g hg he => (I.blks i g b hg he).2 hb

theorem D.R_evo (I : Inv w F γ O) (E : Evo w F γ O w' F' γ' O') {x : D} {v : Value} (h : x.R w F v) : x.R w' F' v := D.R_mono E.frm (E.keep I) x v h

theorem at_next (I : Inv w F γ O) (E : Evo w F γ O w' F' γ' O') (hl : γ'.length = O'.length) {id : Nat} {g : GO} {o : AObj} (hg : γ[id]? = some g) (ho : O[id]? = some o) :
    ∃ g' o', γ'[id]? = some g' ∧ O'[id]? = some o' ∧ Stab o o' g g' := by
  have hi : id < O'.length := Nat.lt_of_lt_of_le (List.getElem?_eq_some_iff.1 ho).1 E.len
  exact ⟨_, _, List.getElem?_eq_getElem (by omega), List.getElem?_eq_getElem hi, E.stab id o _ g _ ho hg (List.getElem?_eq_getElem hi) (List.getElem?_eq_getElem (by omega))⟩

theorem ownAt_evo (I : Inv w F γ O) (E : Evo w F γ O w' F' γ' O') (hl : γ'.length = O'.length) {id ver : Nat} {P : GO → Nat → Nat → Prop} (h : ownAt O γ id ver fun g sz xs => P g sz xs.length) : ownAt O' γ' id ver fun g sz xs => P g sz xs.length := by
  obtain ⟨g, o, hg, ho, hm⟩ := h
  obtain ⟨g', o', hg', ho', hs⟩ := at_next I E hl hg ho
  refine ⟨g', o', hg', ho', ?_⟩
  cases o' with
  | dead => exact trivial
  | buf e' sz' xs' v' =>
    cases o with
    | buf e sz xs v =>
      simp only [Stab] at hs
      obtain ⟨h1, h2⟩ := hm
      obtain ⟨rfl, rfl, hs⟩ := hs
      rcases hs with hs | ⟨rfl, rfl, hl'⟩
      · exact ⟨by omega, fun e => absurd e (by omega)⟩
      · exact ⟨h1, fun e => by show P g sz xs'.length; rw [← hl']; exact h2 e⟩
    | _ => exact hs.elim
  | vbuf e' xs' =>
    cases o with
    | vbuf e xs =>
      simp only [Stab] at hs
      obtain ⟨h1, h2⟩ := hm
      obtain ⟨rfl, hl'⟩ := hs
      refine ⟨h1, fun e => ?_⟩
      have := h2 e
      show P g 1 (xs'.map fun _ => D.nilp).length
      rw [List.length_map, ← hl']
      have h3 : P g 1 (xs.map fun _ => D.nilp).length := this
      rwa [List.length_map] at h3
    | _ => exact hs.elim
  | _ => cases o <;> first | exact hm.elim | exact hs.elim

theorem refAt_evo (I : Inv w F γ O) (E : Evo w F γ O w' F' γ' O') (hl : γ'.length = O'.length) {id : Nat} {P : Nat → Prop} (h : refAt O γ id P) : refAt O' γ' id P := by
  obtain ⟨g, o, hg, ho, hm⟩ := h
  obtain ⟨g', o', hg', ho', hs⟩ := at_next I E hl hg ho
  refine ⟨g', o', hg', ho', ?_⟩
  cases o' with
  | dead => exact trivial
  | cells c' =>
    cases o with
    | cells c => simp only [Stab] at hs; obtain ⟨b, h1, h2⟩ := hm; exact ⟨b, hs ▸ h1, h2⟩
    | _ => exact hs.elim
  | vbuf e' c' =>
    cases o with
    | vbuf e c => simp only [Stab] at hs; obtain ⟨b, h1, h2⟩ := hm; exact ⟨b, hs.1 ▸ h1, h2⟩
    | _ => exact hs.elim
  | _ => cases o <;> first | exact hm.elim | exact hs.elim
theorem mapAt_evo (I : Inv w F γ O) (E : Evo w F γ O w' F' γ' O') (hl : γ'.length = O'.length) {id : Nat} {P : Nat → Prop} (h : mapAt O γ id P) : mapAt O' γ' id P := by
  obtain ⟨g, o, hg, ho, hm⟩ := h
  obtain ⟨g', o', hg', ho', hs⟩ := at_next I E hl hg ho
  refine ⟨g', o', hg', ho', ?_⟩
  cases o' with
  | dead => exact trivial
  | mapo c' =>
    cases o with
    | mapo c => simp only [Stab] at hs; obtain ⟨b, h1, h2⟩ := hm; exact ⟨b, hs ▸ h1, h2⟩
    | _ => exact hs.elim
  | _ => cases o <;> first | exact hm.elim | exact hs.elim
theorem loopAt_evo (I : Inv w F γ O) (E : Evo w F γ O w' F' γ' O') (hl : γ'.length = O'.length) {id : Nat} {P : Nat → Prop} (h : loopAt O γ id P) : loopAt O' γ' id P := by
  obtain ⟨g, o, hg, ho, hm⟩ := h
  obtain ⟨g', o', hg', ho', hs⟩ := at_next I E hl hg ho
  refine ⟨g', o', hg', ho', ?_⟩
  cases o' with
  | dead => exact trivial
  | loopo =>
    cases o with
    | loopo => simp only [Stab] at hs; obtain ⟨b, h1, h2⟩ := hm; exact ⟨b, hs ▸ h1, h2⟩
    | _ => exact hs.elim
  | _ => cases o <;> first | exact hm.elim | exact hs.elim

mutual
theorem AV.V_evo (I : Inv w F γ O) (E : Evo w F γ O w' F' γ' O') (hl : γ'.length = O'.length) : ∀ (x : AV) (v : Value), x.V w F γ O v → x.V w' F' γ' O' v
  | .d x, v, h => D.R_evo I E h
  | .nil0, v, h => h
  | .nilf, v, h => h
  | .own id ver, v, h => ⟨h.1, ownAt_evo (P := fun g _ n => v = g.slice n) I E hl h.2⟩
  | .ref id off, v, h => ⟨h.1, refAt_evo I E hl h.2⟩
  | .oel id ver i off, v, h => ⟨h.1, ownAt_evo (P := fun g sz n => ∃ b, g.blk = some b ∧ v = .pointer (some ⟨b, i * sz + off, none⟩)) I E hl h.2⟩
  | .osl id ver off n, v, h => ⟨h.1, ownAt_evo (P := fun g sz l => off + n ≤ l ∧ ∃ (A : Option Addr) (c : Nat), v = .slice A n c ∧ n ≤ c ∧ (n ≠ 0 → ∃ b, g.blk = some b ∧ A = some ⟨b, off * sz, none⟩)) I E hl h.2⟩
  | .mp id, v, h => ⟨h.1, mapAt_evo I E hl h.2⟩
  | .yld id, v, h => ⟨h.1, loopAt_evo I E hl h.2⟩
  | .fn f caps, v, h => by simp only [AV.V] at h ⊢; obtain ⟨us, rfl, hs⟩ := h; exact ⟨us, rfl, AV.Vs_evo I E hl caps us hs⟩
  | .tup xs, v, h => by simp only [AV.V] at h ⊢; obtain ⟨us, rfl, hs⟩ := h; exact ⟨us, rfl, AV.Vs_evo I E hl xs us hs⟩
  | .agg cs, v, h => by simp only [AV.V] at h ⊢; obtain ⟨us, rfl, hs⟩ := h; exact ⟨us, rfl, AV.VC_evo I E hl cs us hs⟩
  | .unk, v, h => trivial
theorem AV.Vs_evo (I : Inv w F γ O) (E : Evo w F γ O w' F' γ' O') (hl : γ'.length = O'.length) : ∀ (xs : List AV) (us : List Value), AV.Vs w F γ O xs us → AV.Vs w' F' γ' O' xs us
  | [], us, h => h
  | c :: cs, us, h => by simp only [AV.Vs] at h ⊢; obtain ⟨u, us', rfl, h1, h2⟩ := h; exact ⟨u, us', rfl, AV.V_evo I E hl c u h1, AV.Vs_evo I E hl cs us' h2⟩
theorem AV.VC_evo (I : Inv w F γ O) (E : Evo w F γ O w' F' γ' O') (hl : γ'.length = O'.length) : ∀ (xs : List AV) (us : List Value), AV.VC w F γ O xs us → AV.VC w' F' γ' O' xs us
  | [], us, h => h
  | c :: cs, us, h => by simp only [AV.VC] at h ⊢; obtain ⟨u, us', rfl, h0, h1, h2⟩ := h; exact ⟨u, us', rfl, h0, AV.V_evo I E hl c u h1, AV.VC_evo I E hl cs us' h2⟩
end

theorem Row.kept {b e sz cap n : Nat} {cs : List Value} (h : Row w b e sz cap n cs) (hb : w'.heap[b]? = w.heap[b]?) : Row w' b e sz cap n cs := by
  obtain ⟨h1, h2, h3, cur, h4, h5⟩ := h
  exact ⟨h1, h2, h3, cur, hb.trans h4, h5⟩

/-- An object that nothing has touched. -/
theorem OkObj.evo (I : Inv w F γ O) (E : Evo w F γ O w' F' γ' O') (hl : γ'.length = O'.length) {o : AObj} {g : GO} (h : OkObj w F γ O o g) (hb : ∀ b, g.blk = some b → w'.heap[b]? = w.heap[b]?) : OkObj w' F' γ' O' o g := by
  cases o with
  | cells cs => obtain ⟨b, us, t, h1, h2, h3⟩ := h; exact ⟨b, us, t, h1, (hb b h1).trans h2, AV.VC_evo I E hl cs us h3⟩
  | buf e sz xs v =>
    rcases h with h | ⟨b, cs, h0, h1, h2, h3, h4⟩
    · exact .inl h
    · exact .inr ⟨b, cs, h0, h1.kept (hb b h0), h2, D.RE_mono E.frm (E.keep I) _ _ (fun _ _ h => h) _ _ xs h3, h4⟩
  | mapo es =>
    obtain ⟨b, ents, clock, h1, h2, h3, h4⟩ := h
    exact ⟨b, ents, clock, h1, (hb b h1).trans h2, h3, fun i k x hi => let ⟨e, e1, e2, e3⟩ := h4 i k x hi; ⟨e, e1, D.R_evo I E e2, D.R_evo I E e3⟩⟩
  | loopo T N ps ag bo st pe =>
    obtain ⟨b, fn, tmps, df, h1, h2, h3, h4⟩ := h
    exact ⟨b, fn, tmps, df, h1, (hb b h1).trans h2, h3, fun s hs => AV.V_evo I E hl _ _ (h4 s hs)⟩
  | dfro => obtain ⟨b, h1, h2⟩ := h; exact ⟨b, h1, (hb b h1).trans h2⟩
  | vbuf e xs => obtain ⟨b, us, h1, h2, h3⟩ := h; exact ⟨b, us, h1, h2.kept (hb b h1), AV.VC_evo I E hl xs us h3⟩
  | dead => exact h
end mono
end Go.Proofs.Ythpiggjclhnkcaa.AM
