/- Tables: who is below whom, joins, meets. -/
import Derived.Test.YtljmkgjemmoegaaY1
namespace Go.Proofs.Ytljmkgjemmoegaa.AM
open Go
set_option linter.unusedVariables false
set_option linter.unusedSimpArgs false
def isR (M : List (List Bool)) (a : Int) : Bool := decide (0 ≤ a) && decide (a < (M.length : Nat))
theorem isR_iff {M : List (List Bool)} {a : Int} : isR M a = true ↔ 0 ≤ a ∧ a < (M.length : Nat) := by simp [isR]
def leqR (M : List (List Bool)) (a b : Int) : Bool := isR M a && isR M b && gt M a.toNat b.toNat
def lstR (M : List (List Bool)) (a b c : Int) (k : Nat) : Bool := (leqR M a c && leqR M b c) && (List.range k).all fun d => !(leqR M a (d : Nat) && leqR M b (d : Nat) && !leqR M c (d : Nat))
def mstR (M : List (List Bool)) (a b c : Int) (k : Nat) : Bool := (leqR M c a && leqR M c b) && (List.range k).all fun d => !(leqR M (d : Nat) a && leqR M (d : Nat) b && !leqR M (d : Nat) c)
def foundI (p : Nat → Bool) (n : Nat) : Int := match (List.range n).find? p with | some c => (c : Int) | none => -1
theorem foundI_yes {p : Nat → Bool} {n c : Nat} (hc : c < n) (hp : p c = true) (hn : ∀ j, j < c → p j = false) : foundI p n = (c : Int) := by
  unfold foundI; rw [find_range_some hc hp hn]
theorem foundI_no {p : Nat → Bool} {n : Nat} (hn : ∀ j, j < n → p j = false) : foundI p n = -1 := by
  unfold foundI; rw [find_range_none hn]
def joinR (M : List (List Bool)) (a b : Int) : Int := foundI (fun c => lstR M a b (c : Nat) M.length) M.length
def meetR (M : List (List Bool)) (a b : Int) : Int := foundI (fun c => mstR M a b (c : Nat) M.length) M.length
def allC (M : List (List Bool)) (c k : Nat) : Bool := (List.range k).all fun d => gt M c d
def allR (M : List (List Bool)) (c k : Nat) : Bool := (List.range k).all fun d => gt M d c
def botR (M : List (List Bool)) : Int := foundI (fun c => allC M c M.length) M.length
def topR (M : List (List Bool)) : Int := foundI (fun c => allR M c M.length) M.length
theorem all_range_succ (p : Nat → Bool) (k : Nat) : (List.range (k + 1)).all p = ((List.range k).all p && p k) := by rw [List.range_succ, List.all_append]; simp
theorem lstR_succ (M : List (List Bool)) (a b c : Int) (k : Nat) : lstR M a b c (k + 1) = (lstR M a b c k && !(leqR M a (k : Nat) && leqR M b (k : Nat) && !leqR M c (k : Nat))) := by unfold lstR; rw [all_range_succ]; simp only [Bool.and_assoc]
theorem mstR_succ (M : List (List Bool)) (a b c : Int) (k : Nat) : mstR M a b c (k + 1) = (mstR M a b c k && !(leqR M (k : Nat) a && leqR M (k : Nat) b && !leqR M (k : Nat) c)) := by unfold mstR; rw [all_range_succ]; simp only [Bool.and_assoc]
theorem allC_succ (M : List (List Bool)) (c k : Nat) : allC M c (k + 1) = (allC M c k && gt M c k) := all_range_succ _ _
theorem allR_succ (M : List (List Bool)) (c k : Nat) : allR M c (k + 1) = (allR M c k && gt M k c) := all_range_succ _ _
def inR (n : Int) (p : Int × Int) : Bool := decide (0 ≤ p.1) && decide (p.1 < n) && decide (0 ≤ p.2) && decide (p.2 < n)
theorem inR_iff {n : Int} {p : Int × Int} : inR n p = true ↔ 0 ≤ p.1 ∧ p.1 < n ∧ 0 ≤ p.2 ∧ p.2 < n := by simp [inR, and_assoc]
def badR (M : List (List Bool)) (a b : Nat) : Bool := (a != b && gt M a b && gt M b a) || decide (joinR M (a : Nat) (b : Nat) < 0) || decide (meetR M (a : Nat) (b : Nat) < 0)
def goodR (M : List (List Bool)) : Bool := (List.range M.length).all fun a => (List.range M.length).all fun b => !(badR M a b)
def newR (n : Int) (ps : List (Int × Int)) : List (List Bool) × Int :=
  if n < 1 ∨ 16 < n then ([], 1) else if ps.all (inR n) = false then ([], 1) else if goodR (tabF n.toNat ps) = true then (tabF n.toNat ps, 0) else ([], 4)
theorem newR_no {n : Int} {ps : List (Int × Int)} (h : n < 1 ∨ 16 < n) : newR n ps = ([], 1) := if_pos h
theorem newR_out {n : Int} {ps : List (Int × Int)} (h : ¬ (n < 1 ∨ 16 < n)) {i : Nat} (hi : i < ps.length) (hb : inR n ps[i] = false) : newR n ps = ([], 1) := by
  unfold newR
  rw [if_neg h, if_pos (by rw [List.all_eq_false]; exact ⟨_, List.getElem_mem hi, by rw [hb]; simp⟩)]
theorem newR_bad {m : Nat} {ps : List (Int × Int)} (h1 : 1 ≤ m) (h2 : m ≤ 16) (hp : ∀ p ∈ ps, inR (m : Nat) p = true) {a b : Nat} (ha : a < m) (hb : b < m) (hbad : badR (tabF m ps) a b = true) : newR (m : Nat) ps = ([], 4) := by
  have hs := (Sq.rows m ps).tabC m
  unfold newR
  rw [if_neg (by omega), if_neg (by rw [List.all_eq_true.2 hp]; simp), Int.toNat_natCast, if_neg]
  intro hg
  have h := List.all_eq_true.1 hg a (List.mem_range.2 (by show a < (tabC m (rowsF m ps m) m).length; rw [hs.1]; exact ha))
  have h := List.all_eq_true.1 h b (List.mem_range.2 (by show b < (tabC m (rowsF m ps m) m).length; rw [hs.1]; exact hb))
  rw [hbad] at h; cases h
theorem newR_ok {m : Nat} {ps : List (Int × Int)} (h1 : 1 ≤ m) (h2 : m ≤ 16) (hp : ∀ p ∈ ps, inR (m : Nat) p = true) (hg : ∀ a b, a < m → b < m → badR (tabF m ps) a b = false) : newR (m : Nat) ps = (tabF m ps, 0) := by
  have hs := (Sq.rows m ps).tabC m
  unfold newR
  rw [if_neg (by omega), if_neg (by rw [List.all_eq_true.2 hp]; simp), Int.toNat_natCast, if_pos]
  unfold goodR
  rw [List.all_eq_true]
  intro a ha
  rw [List.all_eq_true]
  intro b hb
  have ha : a < (tabC m (rowsF m ps m) m).length := List.mem_range.1 ha
  have hb : b < (tabC m (rowsF m ps m) m).length := List.mem_range.1 hb
  rw [hs.1] at ha hb
  rw [hg a b ha hb]; rfl
theorem rl_eq {a b : List (List Bool)} (h : a = b) : AV.d (encR a) = AV.d (encR b) := by rw [h]
section
variable {P : Program} {ro : Option Nat} {T : Nat → AV} {O : List AObj} {dst : Option Tmp} {ty : TypeId} {pos : String} {af : Array Edge} {g : Option (Nat × Bool)}
theorem opv_build_rl0 {t : TypeId} {parts : Array (Nat × Operand)} {places : List (Nat × Nat)} {z : List AV} [S : Strc P t places] [Z : Ze P t z] (hp : parts.toList = []) (hz : mkAgg z = .d (encR [])) :
    OpV P ro ⟨dst, .build t parts, ty, pos, af, g⟩ T O (.d (encR [])) O := by
  rw [← hz]
  exact opv_build (P := P) (ro := ro) (t := t) (z := z) (cs := z) (by rw [hp]; rfl)
end
theorem take_rl (M : List (List Bool)) : takeAV true 1 ([AV.d (.list (rowsD M))].drop 0) = some (.d (encR M)) := rfl
end Go.Proofs.Ytljmkgjemmoegaa.AM
