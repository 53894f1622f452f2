/- Plain laws of stores: the document's example, one bound to the next one. -/
import Derived.Test.YthpiggjclhnkcaaS3
namespace Go.Proofs.Ythpiggjclhnkcaa.AM
open Go
set_option linter.unusedVariables false
set_option linter.unusedSimpArgs false
def lets (n : Int) : Term := .node 1 n ⟨#[]⟩ []
def e0 : St := ⟨[], [], 0, 0⟩
def e1 : St := (e0.fresh 2).1
def tfx : Term := .node 3 0 ⟨#[102]⟩ [lets 1]
def tat : Term := .node 3 0 ⟨#[97]⟩ []
def e2 : St := (e1.bind 0 tfx).1
def e3 : St := (e2.bind 1 tat).1
theorem e0_ok : e0.Ok (2 ^ 20) := ok_nil _
theorem e1_ok : e1.Ok (2 ^ 20) := e0_ok.fresh 2
theorem e2_ok : e2.Ok (2 ^ 20) := e1_ok.bind 0 tfx (Nat.le_of_ble_eq_true (by decide +kernel))
theorem e3_ok : e3.Ok (2 ^ 20) := e2_ok.bind 1 tat (Nat.le_of_ble_eq_true (by decide +kernel))

/-! One bound to the next one. -/
def chs (k i : Nat) : List (Option Term) := (List.range k).map fun j => if j < i then some (lets ((j + 1 : Nat) : Int)) else none
def trs (i : Nat) : List Int := (List.range i).map Int.ofNat
/-- The first i of k are bound. -/
def chainS (k i : Nat) : St := ⟨chs k i, trs i, 1, i⟩
theorem chs_len (k i : Nat) : (chs k i).length = k := by simp [chs]
theorem trs_len (i : Nat) : (trs i).length = i := by simp [trs]
theorem chain_at {k i : Nat} (n : Nat) (h : n < k) : (chainS k i).at (n : Int) = if n < i then some (lets ((n + 1 : Nat) : Int)) else none := by
  rw [at_nat]
  simp [chainS, chs, h]
theorem chain_zero (k : Nat) (hk : k ≤ 4096) : (e0.fresh (k : Int)).1 = chainS k 0 := by
  unfold St.fresh
  rw [if_neg (by omega), if_neg (by simp [e0]; omega)]
  simp only [chainS, e0, List.nil_append, Int.toNat_natCast, St.mk.injEq, trs, List.range_zero, List.map_nil, Nat.zero_add, and_true, true_and]
  apply List.ext_getElem?
  intro j
  by_cases hj : j < k <;> simp [chs, hj]
theorem look_lets (s : St) (n : Int) : s.look (lets n) = s.at n := by rw [look_at]; rfl
theorem has_var {s : St} {v : Int} {t : Term} (hk : t.kind = 1) (h : s.at t.num = none) : s.has v t = (t.num == v) := by
  obtain ⟨seen, hi⟩ := has_in s v t
  obtain ⟨m, hm⟩ := inT_pos hi
  rw [hm] at hi
  simp only [inT, look_at, hk, if_true, h] at hi
  simp only [Option.some.injEq, Prod.mk.injEq] at hi
  exact hi.1.symm
theorem bind_chain {k i : Nat} (h : i + 1 < k) : (chainS k i).bind (i : Int) (lets ((i + 1 : Nat) : Int)) = (chainS k (i + 1), 0) := by
  have hat : (chainS k i).at (i : Int) = none := by rw [chain_at i (by omega), if_neg (Nat.lt_irrefl _)]
  have hat1 : (chainS k i).at ((i + 1 : Nat) : Int) = none := by rw [chain_at (i + 1) h, if_neg (by omega)]
  have hh : (chainS k i).has (i : Int) (lets ((i + 1 : Nat) : Int)) = false := by rw [has_var rfl hat1]; simp [lets, Term.num]; omega
  have hj : ((chainS k i).cs[(i : Int).toNat]?).join = none := by rw [← at_nat]; simpa using hat
  unfold St.bind
  rw [if_neg (by simp only [chainS, chs_len]; omega), hj, if_neg (by simp), hh, if_neg (by simp)]
  simp only [chainS, Prod.mk.injEq, and_true, St.mk.injEq, true_and]
  refine ⟨?_, ?_⟩
  · apply List.ext_getElem?
    intro j
    rw [List.getElem?_set]
    simp only [chs, List.length_map, List.length_range, List.getElem?_map, Int.toNat_natCast]
    by_cases hj : j < k
    · rw [List.getElem?_range hj]
      simp only [Option.map_some]
      by_cases e : i = j
      · subst e; rw [if_pos rfl, if_pos hj, if_pos (by omega)]
      · rw [if_neg e]
        by_cases h1 : j < i
        · rw [if_pos h1, if_pos (by omega)]
        · rw [if_neg h1, if_neg (by omega)]
    · rw [if_neg (by omega), List.getElem?_eq_none (by simp; omega)]; rfl
  · simp [trs, List.range_succ]
theorem chain_ok {k : Nat} (hk : k ≤ 4096) : ∀ i, i < k → (chainS k i).Ok (2 ^ 20)
  | 0, _ => by rw [← chain_zero k hk]; exact e0_ok.fresh _
  | i + 1, h => by
    have h1 := (chain_ok hk i (by omega)).bind (i : Int) (lets ((i + 1 : Nat) : Int)) (by simp [lets, Term.bulk, bulks]; exact Nat.le_of_ble_eq_true rfl)
    rw [bind_chain h] at h1; exact h1
theorem chain_walk {k : Nat} (hk : k ≤ 4096) : ∀ (d i : Nat), i + d + 1 = k → (chainS k (k - 1)).wk (lets (i : Int)) = lets ((k - 1 : Nat) : Int)
  | 0, i, h => by
    have e : i = k - 1 := by omega
    subst e
    exact wk_none (by rw [look_lets, chain_at _ (by omega), if_neg (Nat.lt_irrefl _)])
  | d + 1, i, h => by
    rw [wk_look (chain_ok hk (k - 1) (by omega)) (t := lets (i : Int)) (u := lets ((i + 1 : Nat) : Int)) (by rw [look_lets, chain_at _ (by omega), if_pos (by omega)])]
    exact chain_walk hk d (i + 1) (by omega)
theorem chain_reach {k : Nat} : ∀ (d i : Nat), i + d + 1 = k → Reach (chainS k (k - 1)) ((k - 1 : Nat) : Int) (i : Int)
  | 0, i, h => by
    have e : i = k - 1 := by omega
    subst e; exact .here
  | d + 1, i, h => .step (t := lets ((i + 1 : Nat) : Int)) (w := ((i + 1 : Nat) : Int)) (by rw [chain_at _ (by omega), if_pos (by omega)]) (by simp [lets, Term.live]) (chain_reach d (i + 1) (by omega))
theorem chain_has {k i : Nat} (hk : k ≤ 4096) (h : i < k) : (chainS k (k - 1)).has ((k - 1 : Nat) : Int) (lets (i : Int)) = true := by
  obtain ⟨r, hr⟩ := (chain_ok hk (k - 1) (by omega)).ranked
  exact (has_spec hr (by rw [chain_at _ (by omega), if_neg (Nat.lt_irrefl _)]) _).2 ⟨(i : Int), by simp [lets, Term.live], chain_reach (k - 1 - i) i (by omega)⟩
theorem chain_ring {k : Nat} (hk : k ≤ 4096) (h : 2 ≤ k) : (chainS k (k - 1)).bind ((k - 1 : Nat) : Int) (lets 0) = (chainS k (k - 1), 4) := by
  have hat : (chainS k (k - 1)).at ((k - 1 : Nat) : Int) = none := by rw [chain_at _ (by omega), if_neg (Nat.lt_irrefl _)]
  have hh := chain_has (i := 0) hk (by omega)
  have hj : ((chainS k (k - 1)).cs[((k - 1 : Nat) : Int).toNat]?).join = none := by rw [← at_nat]; simpa using hat
  unfold St.bind
  rw [if_neg (by simp only [chainS, chs_len]; omega), hj, if_neg (by simp)]
  rw [show (lets 0) = lets ((0 : Nat) : Int) from rfl, hh, if_pos rfl]
theorem chain_there {k : Nat} (hk : k ≤ 4096) (h : 2 ≤ k) (t : Term) : (chainS k (k - 1)).bind 0 t = (chainS k (k - 1), 6) := by
  have hat : (chainS k (k - 1)).at ((0 : Nat) : Int) = some (lets ((0 + 1 : Nat) : Int)) := by rw [chain_at _ (by omega), if_pos (by omega)]
  rw [at_nat] at hat
  unfold St.bind
  rw [if_neg (by simp only [chainS, chs_len]; omega)]
  rw [show (0 : Int).toNat = 0 from rfl, hat]; rfl
/-- So many as a law makes. -/
def kk (n : Int) : Nat := 2 + (n % 100).toNat
theorem kk_eq {n : Int} (h0 : 0 ≤ n) (h1 : n ≤ 255) : IntKind.i64.wrap (2 + IntKind.i64.wrap (n.tmod 100)) = ((kk n : Nat) : Int) := by
  have e : n.tmod 100 = n % 100 := Int.tmod_eq_emod_of_nonneg h0
  rw [e, wrap64 (x := n % 100) (by omega) (by omega), wrap64 (by omega) (by omega)]
  unfold kk; omega
theorem kk_le (n : Int) : 2 ≤ kk n ∧ kk n ≤ 101 := by unfold kk; omega

/-! Variables that are bound, and ones behind them. -/
theorem fresh_ok {s : St} {k : Int} (h0 : 0 ≤ k) (h1 : (s.cs.length : Int) + k ≤ 4096) : s.fresh k = (⟨s.cs ++ List.replicate k.toNat none, s.tr, s.v1 + 1, s.v2⟩, (s.cs.length : Int), 0) := by
  unfold St.fresh; rw [if_neg (by omega), if_neg (by omega)]
theorem fresh_full {s : St} {k : Int} (h0 : 0 ≤ k) (h1 : 4096 < (s.cs.length : Int) + k) : s.fresh k = (s, 0, 3) := by
  unfold St.fresh; rw [if_neg (by omega), if_pos (by omega)]
theorem fresh_len {s : St} {k : Int} (h0 : 0 ≤ k) (h1 : (s.cs.length : Int) + k ≤ 4096) : ((s.fresh k).1.cs.length : Int) = s.cs.length + k := by
  rw [fresh_ok h0 h1]; simp only [List.length_append, List.length_replicate]; omega
/-- What is new is free. -/
theorem fresh_free {s : St} {k n : Int} (h : (s.cs.length : Int) ≤ n) : (s.fresh k).1.at n = none := by
  rw [fresh_at]
  cases hq : s.at n with
  | none => rfl
  | some u => obtain ⟨_, h2, _⟩ := at_some hq; omega
theorem has_num (s : St) (v n : Int) (nm : ByteArray) : s.has v (.node 2 n nm []) = false := by
  obtain ⟨seen, hi⟩ := has_in s v (.node 2 n nm [])
  obtain ⟨m, hm⟩ := inT_pos hi
  rw [hm] at hi
  simp only [inT, look_at, Term.kind, Term.kids] at hi
  cases m with
  | zero => simp [inK] at hi
  | succ m => simp [inK] at hi; exact hi.1
theorem bind_free {s : St} {v : Int} {t : Term} (h0 : 0 ≤ v) (h1 : v < (s.cs.length : Int)) (hv : s.at v = none) (hh : s.has v t = false) : (s.bind v t).2 = 0 ∧ (s.bind v t).1 = ⟨s.cs.set v.toNat (some t), s.tr ++ [v], s.v1, s.v2 + 1⟩ := by
  have hj : (s.cs[v.toNat]?).join = none := by unfold St.at at hv; rw [if_pos h0] at hv; exact hv
  unfold St.bind
  rw [if_neg (by omega), hj, if_neg (by simp), hh, if_neg (by simp)]
  exact ⟨rfl, rfl⟩
theorem bind_far {s : St} {v : Int} {t : Term} (h : (s.cs.length : Int) ≤ v) : s.bind v t = (s, 5) := by unfold St.bind; rw [if_pos (.inr h)]
theorem bind_len (s : St) (v : Int) (t : Term) : (s.bind v t).1.cs.length = s.cs.length := by
  rcases bind_cases s v t with ⟨e, _⟩ | ⟨_, _, _, _, _, e⟩
  · rw [e]
  · rw [e]; simp
/-- A thing done to a store; a variable, and what it is bound to. -/
structure Deed where
  k : Int
  n : Int
  t : Term
def encDeed (d : Deed) : D := .agg (.int .i64 d.k :: .int .i64 d.n :: dcells d.t)
def encBind (p : Int × Term) : D := .agg (.int .i64 p.1 :: dcells p.2)
end Go.Proofs.Ythpiggjclhnkcaa.AM
