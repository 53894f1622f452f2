/- Stores that hold together: nothing is bound to what it is in. -/
import Derived.Test.YthpiggjclhnkcaaS2
namespace Go.Proofs.Ythpiggjclhnkcaa.AM
open Go
set_option linter.unusedVariables false
set_option linter.unusedSimpArgs false
mutual
/-- The variables of a term, but those in seals. -/
def Term.live : Term → List Int
  | .node k n s ks => if k = 1 then [n] else if k = 4 then [] else lives ks
def lives : List Term → List Int
  | [] => []
  | t :: ts => t.live ++ lives ts
end
theorem Term.live_eq (t : Term) : t.live = if t.kind = 1 then [t.num] else if t.kind = 4 then [] else lives t.kids := by cases t; rfl
/-- What a variable is bound to. -/
def St.at (s : St) (n : Int) : Option Term := if 0 ≤ n then (s.cs[n.toNat]?).join else none
theorem look_at (s : St) (t : Term) : s.look t = if t.kind = 1 then s.at t.num else none := by
  unfold St.look St.at
  by_cases h : t.kind = 1 <;> by_cases h2 : 0 ≤ t.num <;> simp [h, h2]
theorem at_nat (s : St) (i : Nat) : s.at (i : Int) = (s.cs[i]?).join := by simp [St.at]
theorem at_some {s : St} {n : Int} {u : Term} (h : s.at n = some u) : 0 ≤ n ∧ n < (s.cs.length : Int) ∧ s.cs[n.toNat]? = some (some u) := by
  unfold St.at at h
  split at h
  · rename_i h0
    cases hq : s.cs[n.toNat]? with
    | none => rw [hq] at h; cases h
    | some c => rw [hq] at h; simp only [Option.join_some] at h; have := (List.getElem?_eq_some_iff.1 hq).1; exact ⟨h0, by omega, by rw [h]⟩
  · cases h
def St.Ranked (s : St) (r : Int → Nat) : Prop := ∀ (n : Int) (t : Term), s.at n = some t → ∀ u ∈ t.live, r u < r n
inductive Reach (s : St) (v : Int) : Int → Prop
  | here : Reach s v v
  | step {u w : Int} {t : Term} (h : s.at u = some t) (hw : w ∈ t.live) (hr : Reach s v w) : Reach s v u

theorem reach_bound {s : St} {v u : Int} {t : Term} (hv : s.at v = none) (h : s.at u = some t) : Reach s v u ↔ ∃ w ∈ t.live, Reach s v w := by
  constructor
  · intro hr
    cases hr with
    | here => rw [hv] at h; cases h
    | step h' hw hr => rw [h] at h'; cases h'; exact ⟨_, hw, hr⟩
  · rintro ⟨w, hw, hr⟩; exact .step h hw hr
theorem reach_free {s : St} {v u : Int} (h : s.at u = none) : Reach s v u ↔ u = v := by
  constructor
  · intro hr
    cases hr with
    | here => rfl
    | step h' hw hr => rw [h] at h'; cases h'
  · rintro rfl; exact .here

theorem in_spec {s : St} {r : Int → Nat} {v : Int} (hr : s.Ranked r) (hv : s.at v = none) : ∀ (n : Nat),
    (∀ (t : Term) (seen : List Int) (R : Nat) (b : Bool) (seen' : List Int), inT s v n t seen = some (b, seen') → (∀ u ∈ t.live, r u < R) → (∀ u ∈ seen, ¬ Reach s v u ∨ R ≤ r u) → (b = true ↔ ∃ u ∈ t.live, Reach s v u) ∧ (b = false → ∀ u ∈ seen', u ∈ seen ∨ ¬ Reach s v u)) ∧
    (∀ (ks : List Term) (seen : List Int) (R : Nat) (b : Bool) (seen' : List Int), inK s v n ks seen = some (b, seen') → (∀ u ∈ lives ks, r u < R) → (∀ u ∈ seen, ¬ Reach s v u ∨ R ≤ r u) → (b = true ↔ ∃ u ∈ lives ks, Reach s v u) ∧ (b = false → ∀ u ∈ seen', u ∈ seen ∨ ¬ Reach s v u)) := by
  intro n
  induction n with
  | zero => exact ⟨fun t seen R b seen' h => by simp [inT] at h, fun ks seen R b seen' h => by simp [inK] at h⟩
  | succ n ih =>
    constructor
    · intro t seen R b seen' h hR hs
      simp only [inT] at h
      cases hl : s.look t with
      | some u =>
        rw [hl] at h
        simp only at h
        have hk := (look_some hl).1
        have hat : s.at t.num = some u := by rw [look_at, if_pos hk] at hl; exact hl
        have hlive : t.live = [t.num] := by rw [t.live_eq, if_pos hk]
        have hiff : (∃ w ∈ t.live, Reach s v w) ↔ Reach s v t.num := by rw [hlive]; simp
        rw [hiff]
        have htR := hR t.num (by rw [hlive]; simp)
        by_cases hin : t.num ∈ seen
        · rw [if_pos hin] at h
          simp only [Option.some.injEq, Prod.mk.injEq] at h
          obtain ⟨rfl, rfl⟩ := h
          have := (hs _ hin).resolve_right (by omega)
          exact ⟨⟨fun h => (by cases h), fun h => absurd h this⟩, fun _ u hu => .inl hu⟩
        · rw [if_neg hin] at h
          obtain ⟨h1, h2⟩ := ih.1 u (seen ++ [t.num]) (r t.num) b seen' h (fun w hw => hr _ _ hat w hw) (fun x hx => by
            rcases List.mem_append.1 hx with hx | hx
            · exact (hs x hx).imp (fun h => h) (fun h => by omega)
            · simp at hx; subst hx; exact .inr (Nat.le_refl _))
          rw [← reach_bound hv hat] at h1
          refine ⟨h1, fun hb x hx => ?_⟩
          rcases h2 hb x hx with hx' | hx'
          · rcases List.mem_append.1 hx' with hx' | hx'
            · exact .inl hx'
            · simp at hx'; subst hx'
              exact .inr fun hh => by rw [← h1, hb] at hh; cases hh
          · exact .inr hx'
      | none =>
        rw [hl] at h
        simp only at h
        rw [look_at] at hl
        rw [t.live_eq] at hR ⊢
        by_cases k1 : t.kind = 1
        · rw [if_pos k1] at h hR hl ⊢
          simp only [Option.some.injEq, Prod.mk.injEq] at h
          obtain ⟨rfl, rfl⟩ := h
          refine ⟨?_, fun _ u hu => .inl hu⟩
          simp only [beq_iff_eq, List.mem_singleton, exists_eq_left]
          exact (reach_free hl).symm
        · rw [if_neg k1] at h hR ⊢
          by_cases k4 : t.kind = 4
          · rw [if_pos k4] at h hR ⊢
            simp only [Option.some.injEq, Prod.mk.injEq] at h
            obtain ⟨rfl, rfl⟩ := h
            exact ⟨by simp, fun _ u hu => .inl hu⟩
          · rw [if_neg k4] at h hR ⊢
            exact ih.2 t.kids seen R b seen' h hR hs
    · intro ks seen R b seen' h hR hs
      cases ks with
      | nil =>
        obtain ⟨rfl, rfl⟩ := inK_nil h
        exact ⟨by simp [lives], fun _ u hu => .inl hu⟩
      | cons k ks =>
        obtain ⟨b2, l2, h1, h2⟩ := inK_cons h
        simp only [lives] at hR ⊢
        obtain ⟨e1, e2⟩ := ih.1 k seen R b2 l2 h1 (fun u hu => hR u (List.mem_append_left _ hu)) hs
        rcases h2 with ⟨rfl, rfl, rfl⟩ | ⟨rfl, h2⟩
        · refine ⟨⟨fun _ => ?_, fun _ => rfl⟩, fun h => by cases h⟩
          obtain ⟨u, hu, hh⟩ := e1.1 rfl
          exact ⟨u, List.mem_append_left _ hu, hh⟩
        · have e2 := e2 rfl
          obtain ⟨f1, f2⟩ := ih.2 ks l2 R b seen' h2 (fun u hu => hR u (List.mem_append_right _ hu)) (fun u hu => by
            rcases e2 u hu with h | h
            · exact hs u h
            · exact .inl h)
          refine ⟨?_, fun hb u hu => ?_⟩
          · rw [f1]
            constructor
            · rintro ⟨u, hu, hh⟩; exact ⟨u, List.mem_append_right _ hu, hh⟩
            · rintro ⟨u, hu, hh⟩
              rcases List.mem_append.1 hu with hu | hu
              · have := e1.2 ⟨u, hu, hh⟩; cases this
              · exact ⟨u, hu, hh⟩
          · rcases f2 hb u hu with h | h
            · exact e2 u h
            · exact .inr h
def maxR (r : Int → Nat) : List Int → Nat
  | [] => 0
  | u :: l => max (r u) (maxR r l)
theorem maxR_le {r : Int → Nat} {u : Int} : ∀ {l : List Int}, u ∈ l → r u ≤ maxR r l
  | x :: l, h => by
    simp only [maxR]
    rcases List.mem_cons.1 h with rfl | h
    · omega
    · have := maxR_le (r := r) h; omega
theorem has_spec {s : St} {r : Int → Nat} {v : Int} (hr : s.Ranked r) (hv : s.at v = none) (t : Term) : s.has v t = true ↔ ∃ u ∈ t.live, Reach s v u := by
  obtain ⟨seen, h⟩ := has_in s v t
  exact ((in_spec hr hv _).1 t [] (maxR r t.live + 1) _ seen h (fun u hu => by have := maxR_le (r := r) hu; omega) (fun u hu => by cases hu)).1

/-! What holds of each store that is made. -/
structure St.Ok (s : St) (B : Nat) : Prop where
  len : s.cs.length ≤ 4096
  nodup : s.tr.Nodup
  inr : ∀ v ∈ s.tr, (s.at v).isSome = true
  small : s.small B
  ranked : ∃ r, s.Ranked r

theorem nodup_len : ∀ (n : Nat) (l : List Int), l.Nodup → (∀ x ∈ l, 0 ≤ x ∧ x < (n : Int)) → l.length ≤ n
  | 0, l, _, h => by
    cases l with
    | nil => simp
    | cons x l => have := h x (by simp); omega
  | n + 1, l, hd, h => by
    have h1 := nodup_len n (l.erase n) (hd.erase _) (fun x hx => by
      have h2 := h x (List.mem_of_mem_erase hx)
      have h3 : x ≠ (n : Int) := fun e => by subst e; exact (List.Nodup.not_mem_erase hd) hx
      omega)
    have := List.length_erase (a := (n : Int)) (l := l)
    split at this <;> omega
/-- The variables on the way. -/
def St.path (s : St) : Nat → Term → List Int
  | 0, t => []
  | n + 1, t => match s.look t with
    | none => []
    | some u => t.num :: s.path n u
theorem path_rank {s : St} {r : Int → Nat} (hr : s.Ranked r) : ∀ (n : Nat) (t : Term), t.kind = 1 → ∀ x ∈ s.path n t, r x ≤ r t.num
  | 0, t, _, x, hx => by simp [St.path] at hx
  | n + 1, t, hk, x, hx => by
    simp only [St.path] at hx
    cases hl : s.look t with
    | none => rw [hl] at hx; simp at hx
    | some u =>
      rw [hl] at hx
      rcases List.mem_cons.1 hx with rfl | hx
      · exact Nat.le_refl _
      · have hat : s.at t.num = some u := by rw [look_at, if_pos hk] at hl; exact hl
        by_cases hku : u.kind = 1
        · have h1 := path_rank hr n u hku x hx
          have h2 := hr _ _ hat u.num (by rw [u.live_eq, if_pos hku]; simp)
          omega
        · cases n with
          | zero => simp [St.path] at hx
          | succ n => simp [St.path, look_at, hku] at hx
theorem path_ok {s : St} {r : Int → Nat} (hr : s.Ranked r) : ∀ (n : Nat) (t : Term), (s.path n t).Nodup ∧ ∀ x ∈ s.path n t, 0 ≤ x ∧ x < (s.cs.length : Int)
  | 0, t => ⟨List.nodup_nil, fun x hx => by simp [St.path] at hx⟩
  | n + 1, t => by
    simp only [St.path]
    cases hl : s.look t with
    | none => exact ⟨List.nodup_nil, fun x hx => by cases hx⟩
    | some u =>
      obtain ⟨h1, h2⟩ := path_ok hr n u
      obtain ⟨k1, k2, k3, k4⟩ := look_lt hl
      have hat : s.at t.num = some u := by rw [look_at, if_pos k1] at hl; exact hl
      refine ⟨List.nodup_cons.2 ⟨fun hx => ?_, h1⟩, fun x hx => ?_⟩
      · by_cases hku : u.kind = 1
        · have h3 := path_rank hr n u hku _ hx
          have h4 := hr _ _ hat u.num (by rw [u.live_eq, if_pos hku]; simp)
          omega
        · cases n with
          | zero => simp [St.path] at hx
          | succ n => simp [St.path, look_at, hku] at hx
      · rcases List.mem_cons.1 hx with rfl | hx
        · exact ⟨k2, k3⟩
        · exact h2 x hx
theorem path_len {s : St} : ∀ (n : Nat) (t : Term), s.look (s.walk n t) ≠ none → (s.path n t).length = n
  | 0, t, _ => rfl
  | n + 1, t, h => by
    simp only [St.path]
    cases hl : s.look t with
    | none => rw [walk_stop hl] at h; exact absurd hl h
    | some u => rw [walk_nx hl] at h; simp [path_len n u h]
/-- Each walk ends. -/
theorem St.Ok.ends {s : St} {B : Nat} (h : s.Ok B) (t : Term) : s.look (s.wk t) = none := by
  obtain ⟨r, hr⟩ := h.ranked
  cases hq : s.look (s.wk t) with
  | none => rfl
  | some u =>
    have h1 := path_len (s.cs.length + 1) t (by rw [show s.walk _ t = s.wk t from rfl, hq]; simp)
    obtain ⟨h2, h3⟩ := path_ok hr (s.cs.length + 1) t
    have := nodup_len _ _ h2 h3
    omega
theorem at_app (s : St) (k : Nat) (v1 v2 : Nat) (n : Int) : (⟨s.cs ++ List.replicate k none, s.tr, v1, v2⟩ : St).at n = s.at n := by
  unfold St.at
  split
  · show ((s.cs ++ List.replicate k none)[n.toNat]?).join = _
    by_cases h : n.toNat < s.cs.length
    · rw [List.getElem?_append_left h]
    · rw [List.getElem?_append_right (by omega), List.getElem?_eq_none (l := s.cs) (by omega)]
      rw [List.getElem?_replicate]
      split <;> rfl
  · rfl
theorem fresh_at (s : St) (k n : Int) : (s.fresh k).1.at n = s.at n := by
  unfold St.fresh
  split
  · rfl
  · split
    · rfl
    · exact at_app s _ _ _ n
theorem fresh_tr (s : St) (k : Int) : (s.fresh k).1.tr = s.tr := by
  unfold St.fresh
  split
  · rfl
  · split <;> rfl
theorem small_at {s : St} {B : Nat} : s.small B ↔ ∀ n u, s.at n = some u → u.bulk ≤ B := by
  constructor
  · intro h n u hu; exact h _ _ (at_some hu).2.2
  · intro h i u hu; exact h (i : Int) u (by rw [at_nat, hu]; rfl)
theorem St.Ok.fresh {s : St} {B : Nat} (h : s.Ok B) (k : Int) : (s.fresh k).1.Ok B := by
  refine ⟨?_, by rw [fresh_tr]; exact h.nodup, by rw [fresh_tr]; intro v hv; rw [fresh_at]; exact h.inr v hv, small_at.2 fun n u hu => small_at.1 h.small n u (by rw [fresh_at] at hu; exact hu), ?_⟩
  · have := h.len
    unfold St.fresh
    split
    · exact this
    · split
      · exact this
      · simp only [List.length_append, List.length_replicate]; omega
  · obtain ⟨r, hr⟩ := h.ranked
    exact ⟨r, fun n t hn => hr n t (by rw [fresh_at] at hn; exact hn)⟩
theorem set_at (s : St) (v n : Int) (c : Option Term) (tr : List Int) (v1 v2 : Nat) (h0 : 0 ≤ v) (h1 : v < (s.cs.length : Int)) : (⟨s.cs.set v.toNat c, tr, v1, v2⟩ : St).at n = if n = v then c else s.at n := by
  unfold St.at
  split
  · show ((s.cs.set v.toNat c)[n.toNat]?).join = _
    by_cases hn : n = v
    · subst hn; rw [if_pos rfl, List.getElem?_set_self (by omega)]; rfl
    · rw [if_neg hn, List.getElem?_set_ne (by omega)]
  · rw [if_neg (by omega)]
/-- What a bind does. -/
theorem bind_cases (s : St) (v : Int) (t : Term) : ((s.bind v t).1 = s ∧ (s.bind v t).2 ≠ 0) ∨ (0 ≤ v ∧ v < (s.cs.length : Int) ∧ s.at v = none ∧ s.has v t = false ∧ (s.bind v t).2 = 0 ∧ (s.bind v t).1 = ⟨s.cs.set v.toNat (some t), s.tr ++ [v], s.v1, s.v2 + 1⟩) := by
  unfold St.bind
  split
  · exact .inl ⟨rfl, by simp⟩
  · rename_i h1
    split
    · exact .inl ⟨rfl, by simp⟩
    · rename_i h2
      split
      · exact .inl ⟨rfl, by simp⟩
      · rename_i h3
        refine .inr ⟨by omega, by omega, ?_, by simpa using h3, rfl, rfl⟩
        unfold St.at
        rw [if_pos (by omega)]
        cases hq : (s.cs[v.toNat]?).join with
        | none => rfl
        | some u => rw [hq] at h2; simp at h2
theorem bind_at {s : St} {v : Int} {t : Term} (h : (s.bind v t).2 = 0) (n : Int) : (s.bind v t).1.at n = if n = v then some t else s.at n := by
  rcases bind_cases s v t with ⟨_, h1⟩ | ⟨h0, h1, _, _, _, e⟩
  · exact absurd h h1
  · rw [e, set_at s v n (some t) _ _ _ h0 h1]
theorem St.Ok.bind {s : St} {B : Nat} (h : s.Ok B) (v : Int) (t : Term) (hb : t.bulk ≤ B) : (s.bind v t).1.Ok B := by
  rcases bind_cases s v t with ⟨e, _⟩ | ⟨h0, h1, hv, hh, _, e⟩
  · rw [e]; exact h
  · have hat : ∀ n, (s.bind v t).1.at n = if n = v then some t else s.at n := fun n => by rw [e, set_at s v n (some t) _ _ _ h0 h1]
    have hvtr : v ∉ s.tr := fun hm => by have := h.inr v hm; rw [hv] at this; cases this
    refine ⟨by rw [e]; simpa using h.len, by rw [e]; exact List.nodup_append.2 ⟨h.nodup, by simp, fun a ha b hb => by simp at hb; subst hb; exact fun e => hvtr (e ▸ ha)⟩, ?_, ?_, ?_⟩
    · intro u hu
      rw [hat]
      rw [e] at hu
      by_cases huv : u = v
      · rw [if_pos huv]; rfl
      · rw [if_neg huv]
        rcases List.mem_append.1 hu with hu | hu
        · exact h.inr u hu
        · simp at hu; exact absurd hu huv
    · rw [small_at]
      intro n u hu
      rw [hat] at hu
      split at hu
      · cases hu; exact hb
      · exact small_at.1 h.small n u hu
    · obtain ⟨r, hr⟩ := h.ranked
      have hsp := has_spec hr hv t
      have hno : ∀ u ∈ t.live, ¬ Reach s v u := fun u hu hre => by have := hsp.2 ⟨u, hu, hre⟩; rw [hh] at this; cases this
      refine ⟨fun u => open Classical in if Reach s v u then r u + (maxR r t.live + 1) else r u, fun n u hn w hw => ?_⟩
      rw [hat] at hn
      split at hn
      · rename_i hnv
        subst hnv
        cases hn
        simp only [hno w hw, if_false, Reach.here, if_true]
        have := maxR_le (r := r) hw
        omega
      · have hlt := hr n u hn w hw
        by_cases hrw : Reach s v w
        · simp only [hrw, if_true, Reach.step hn hw hrw]; omega
        · simp only [hrw, if_false]
          split <;> omega
end Go.Proofs.Ythpiggjclhnkcaa.AM
