/- The abstract machine's values, objects, and what they say of a world. -/
import Derived.CallsIn
import Derived.OrdersIn
import Derived.Laws.Sem
import Derived.Laws.World
import Derived.Below
import Derived.KernelRfl
import Derived.Laws.AppendOwn
import Derived.Laws.CopyRow
import Derived.Laws.Cells
namespace Go.Proofs.Ythpiggjclhnkcaa.AM
open Go
set_option linter.unusedVariables false
set_option linter.unusedSimpArgs false

/-- DATA: what is never written again. -/
inductive D where
  | int (k : IntKind) (n : Int)
  | bool (b : Bool)
  | str (s : ByteArray)
  | nilp
  | list (xs : List D)
  | agg (cs : List D)
  | ptr (cs : List D)

def D.one : D → Bool
  | .agg _ => false
  | _ => true
def D.cells : D → List D
  | .agg cs => cs
  | x => [x]

mutual
def D.R (w : World) (F : Nat → Prop) : D → Value → Prop
  | .int k n, v => v = .int k n
  | .bool b, v => v = .bool b
  | .str s, v => v = .string s
  | .nilp, v => v = .pointer none
  | .list xs, v => ∃ (A : Option Addr) (c sz : Nat), v = .slice A xs.length c ∧ xs.length ≤ c ∧ (xs ≠ [] → ∃ ad, A = some ad ∧ ad.spot = none ∧ F ad.block) ∧
      D.RE w F (fun k => A.bind fun ad => w.cell? (ad.add k)) sz 0 xs
  | .agg cs, v => ∃ us : List Value, v = .agg us.toArray ∧ D.RC w F cs us
  | .ptr cs, v => ∃ (ad : Addr) (us : List Value), v = .pointer (some ad) ∧ ad.spot = none ∧ F ad.block ∧ D.RC w F cs us ∧ ∀ (j : Nat) (u : Value), us[j]? = some u → w.cell? (ad.add j) = some u
def D.RC (w : World) (F : Nat → Prop) : List D → List Value → Prop
  | [], us => us = []
  | c :: cs, us => ∃ u us', us = u :: us' ∧ c.one = true ∧ D.R w F c u ∧ D.RC w F cs us'
def D.RE (w : World) (F : Nat → Prop) (get : Nat → Option Value) (sz : Nat) : Nat → List D → Prop
  | _, [] => True
  | i, x :: xs => (∃ v, D.R w F x v ∧ v.cells.size = sz ∧ ∀ (j : Nat) (u : Value), v.cells[j]? = some u → get (i * sz + j) = some u) ∧ D.RE w F get sz (i + 1) xs
end

mutual
theorem D.R_mono {w w' : World} {F F' : Nat → Prop} (hF : ∀ b, F b → F' b) (hw : ∀ b, F b → w'.heap[b]? = w.heap[b]?) : ∀ (x : D) (v : Value), D.R w F x v → D.R w' F' x v
  | .int k n, v, h => h
  | .bool b, v, h => h
  | .str s, v, h => h
  | .nilp, v, h => h
  | .list xs, v, h => by
    simp only [D.R] at h ⊢
    obtain ⟨A, c, sz, rfl, hc, hA, hE⟩ := h
    by_cases hne : xs = []
    · subst hne; exact ⟨A, c, sz, rfl, hc, fun n => absurd rfl n, trivial⟩
    obtain ⟨ad, rfl, hsp, hFad⟩ := hA hne
    refine ⟨some ad, c, sz, rfl, hc, fun _ => ⟨ad, rfl, hsp, hF _ hFad⟩, D.RE_mono hF hw _ _ ?_ sz 0 xs hE⟩
    intro k u hk
    simp only [Option.bind_some] at hk ⊢
    rw [← hk]
    refine World.cell?_of_block (w := w) (hw _ ?_)
    have : (ad.add k).block = ad.block := by unfold Addr.add; split <;> rfl
    rw [this]
    exact hFad
  | .agg cs, v, h => by
    simp only [D.R] at h ⊢
    obtain ⟨us, rfl, hc⟩ := h
    exact ⟨us, rfl, D.RC_mono hF hw cs us hc⟩
  | .ptr cs, v, h => by
    simp only [D.R] at h ⊢
    obtain ⟨ad, us, rfl, hs, hb, hc, hm⟩ := h
    refine ⟨ad, us, rfl, hs, hF _ hb, D.RC_mono hF hw cs us hc, fun j u hj => ?_⟩
    rw [← hm j u hj]
    refine World.cell?_of_block (w := w) (hw _ ?_)
    have : (ad.add j).block = ad.block := by unfold Addr.add; split <;> rfl
    rw [this]; exact hb
theorem D.RC_mono {w w' : World} {F F' : Nat → Prop} (hF : ∀ b, F b → F' b) (hw : ∀ b, F b → w'.heap[b]? = w.heap[b]?) : ∀ (cs : List D) (us : List Value), D.RC w F cs us → D.RC w' F' cs us
  | [], us, h => h
  | c :: cs, us, h => by
    simp only [D.RC] at h ⊢
    obtain ⟨u, us', rfl, h1, h2, h3⟩ := h
    exact ⟨u, us', rfl, h1, D.R_mono hF hw c u h2, D.RC_mono hF hw cs us' h3⟩
theorem D.RE_mono {w w' : World} {F F' : Nat → Prop} (hF : ∀ b, F b → F' b) (hw : ∀ b, F b → w'.heap[b]? = w.heap[b]?) (get get' : Nat → Option Value) : ∀ (hg : ∀ k u, get k = some u → get' k = some u) (sz i : Nat) (xs : List D), D.RE w F get sz i xs → D.RE w' F' get' sz i xs
  | hg, sz, i, [], h => trivial
  | hg, sz, i, x :: xs, h => by
    simp only [D.RE] at h ⊢
    obtain ⟨⟨v, h1, h2, h3⟩, h4⟩ := h
    exact ⟨⟨v, D.R_mono hF hw x v h1, h2, fun j u hj => hg _ _ (h3 j u hj)⟩, D.RE_mono hF hw get get' hg sz (i + 1) xs h4⟩
end
end Go.Proofs.Ythpiggjclhnkcaa.AM
