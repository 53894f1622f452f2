/- Tables: what is computed, and a rule for each operation on them. -/
import Derived.Test.YtljmkgjemmoegaaY0
namespace Go.Proofs.Ytljmkgjemmoegaa.AM
open Go
set_option linter.unusedVariables false
set_option linter.unusedSimpArgs false
def rowF (n a : Nat) (ps : List (Int × Int)) : List Bool := ps.foldl (fun r p => if p.1 = (a : Int) then r.set p.2.toNat true else r) ((List.replicate n false).set a true)
def rowsF (n : Nat) (ps : List (Int × Int)) (a : Nat) : List (List Bool) := (List.range a).map fun j => rowF n j ps
def gt (M : List (List Bool)) (a b : Nat) : Bool := (M.getD a []).getD b false
def stepT (c a : Nat) (M : List (List Bool)) (b : Nat) : List (List Bool) := M.set a ((M.getD a []).set b (gt M a b || (gt M a c && gt M c b)))
def tabB (c a : Nat) (M : List (List Bool)) (b : Nat) : List (List Bool) := (List.range b).foldl (stepT c a) M
def tabA (n c : Nat) (M : List (List Bool)) (a : Nat) : List (List Bool) := (List.range a).foldl (fun M a' => tabB c a' M n) M
def tabC (n : Nat) (M : List (List Bool)) (c : Nat) : List (List Bool) := (List.range c).foldl (fun M c' => tabA n c' M n) M
def tabF (n : Nat) (ps : List (Int × Int)) : List (List Bool) := tabC n (rowsF n ps n) n
def Sq (n : Nat) (M : List (List Bool)) : Prop := M.length = n ∧ ∀ r ∈ M, r.length = n
theorem rowF_len (n a : Nat) (ps : List (Int × Int)) : (rowF n a ps).length = n := by
  unfold rowF
  have key : ∀ (ps : List (Int × Int)) (r : List Bool), r.length = n → (ps.foldl (fun r p => if p.1 = (a : Int) then r.set p.2.toNat true else r) r).length = n := by
    intro ps
    induction ps with
    | nil => intro r h; exact h
    | cons p ps ih => intro r h; rw [List.foldl_cons]; refine ih _ ?_; split <;> simp [h]
  exact key ps _ (by simp)
theorem rowF_take {n a : Nat} {ps : List (Int × Int)} {i : Nat} (h : i < ps.length) : rowF n a (ps.take (i + 1)) = if ps[i].1 = (a : Int) then (rowF n a (ps.take i)).set ps[i].2.toNat true else rowF n a (ps.take i) := by
  unfold rowF; rw [List.take_succ_eq_append_getElem h, List.foldl_append]; rfl
theorem rowsF_succ (n : Nat) (ps : List (Int × Int)) (a : Nat) : rowsF n ps (a + 1) = rowsF n ps a ++ [rowF n a ps] := by simp [rowsF, List.range_succ]
theorem rowsF_len (n : Nat) (ps : List (Int × Int)) (a : Nat) : (rowsF n ps a).length = a := by simp [rowsF]
theorem Sq.rows (n : Nat) (ps : List (Int × Int)) : Sq n (rowsF n ps n) := ⟨rowsF_len n ps n, fun r hr => by
  obtain ⟨j, _, rfl⟩ := List.mem_map.1 hr; exact rowF_len n j ps⟩
theorem Sq.row {n : Nat} {M : List (List Bool)} (h : Sq n M) {a : Nat} (ha : a < M.length) : M[a].length = n := h.2 _ (List.getElem_mem ha)
theorem gt_eq {M : List (List Bool)} {a b : Nat} (ha : a < M.length) (hb : b < M[a].length) : gt M a b = M[a][b] := by simp [gt, ha, hb]
theorem stepT_eq {M : List (List Bool)} {c a b : Nat} (ha : a < M.length) (hc : c < M.length) (hb : b < M[a].length) (hcb : c < M[a].length) (hbc : b < M[c].length) : stepT c a M b = M.set a (M[a].set b (M[a][b] || (M[a][c] && M[c][b]))) := by
  unfold stepT
  rw [gt_eq ha hb, gt_eq ha hcb, gt_eq hc hbc]
  simp [ha]
theorem Sq.step {n c a : Nat} {M : List (List Bool)} (h : Sq n M) (b : Nat) : Sq n (stepT c a M b) := by
  unfold stepT
  refine ⟨by simp [h.1], fun r hr => ?_⟩
  by_cases ha : a < M.length
  · rcases List.mem_or_eq_of_mem_set hr with hr | rfl
    · exact h.2 r hr
    · simp [ha, h.row ha]
  · rw [List.set_eq_of_length_le (by omega)] at hr
    exact h.2 r hr
theorem Sq.tabB {n c a : Nat} {M : List (List Bool)} (h : Sq n M) : ∀ b, Sq n (tabB c a M b)
  | 0 => h
  | b + 1 => by unfold AM.tabB; rw [foldl_range_succ]; exact (Sq.tabB h b).step b
theorem Sq.tabA {n c : Nat} {M : List (List Bool)} (h : Sq n M) : ∀ a, Sq n (tabA n c M a)
  | 0 => h
  | a + 1 => by unfold AM.tabA; rw [foldl_range_succ]; exact (Sq.tabA h a).tabB n
theorem Sq.tabC {n : Nat} {M : List (List Bool)} (h : Sq n M) : ∀ c, Sq n (tabC n M c)
  | 0 => h
  | c + 1 => by unfold AM.tabC; rw [foldl_range_succ]; exact (Sq.tabC h c).tabA n
theorem tabB_succ (c a : Nat) (M : List (List Bool)) (b : Nat) : tabB c a M (b + 1) = stepT c a (tabB c a M b) b := foldl_range_succ _ _ _
theorem tabA_succ (n c : Nat) (M : List (List Bool)) (a : Nat) : tabA n c M (a + 1) = tabB c a (tabA n c M a) n := foldl_range_succ _ _ _
theorem tabC_succ (n : Nat) (M : List (List Bool)) (c : Nat) : tabC n M (c + 1) = tabA n c (tabC n M c) n := foldl_range_succ _ _ _

def tA (a : Nat) : AV := if a = 0 then .nil0 else .own (3 * a - 1) 0
theorem kill_own {id v n : Nat} (h : id < n) : (AV.own id v).kill n = .own id v := by
  simp only [AV.kill]
  rw [show Nat.blt id n = true from by rw [Nat.blt_eq]; exact h]
  rfl
theorem kill_tA {a n : Nat} (h : 3 * a ≤ n) : (tA a).kill n = tA a := by
  unfold tA
  split
  · rfl
  · exact kill_own (by omega)
theorem obj_last {L : List AObj} {o : AObj} {k : Nat} (h : L.length = k) : (L ++ [o])[k]? = some o := by subst h; simp
theorem set_last {L : List AObj} {o o' : AObj} {k : Nat} (h : L.length = k) : (L ++ [o]).set k o' = L ++ [o'] := by subst h; simp
theorem rows_get {M : List (List Bool)} {j : Nat} (h : j < M.length) : (rowsD M)[j]? = some (.list (bools M[j])) := by simp [rowsD, h]
section
variable {P : Program} {ro : Option Nat} {N : Nat} {K : Org} {T : Nat → AV} {O : List AObj} {dst : Option Tmp} {ty : TypeId} {pos : String} {af : Array Edge} {g : Option (Nat × Bool)}
theorem opv_make_at {x y : Operand} {t e by_ n k0 : Nat} {k k' : IntKind} [S : Slc P t e 1] [Z : Ze P e [.d (.bool false)]] [B : Byt P e by_] (hk : O.length = k0) (hx : evT T x = .d (.int k (n : Nat))) (hy : evT T y = .d (.int k' (n : Nat))) (hn : n ≤ 1073741824) (hby : Nat.ble by_ 4096 = true := by rfl) :
    OpV P ro ⟨dst, .makeSlice t x y, ty, pos, af, g⟩ T O (.own k0 1) (O ++ [.buf e 1 (bools (List.replicate n false)) 1]) := by
  have := opv_make (P := P) (ro := ro) (dst := dst) (ty := ty) (pos := pos) (af := af) (g := g) (T := T) (O := O) (t := t) (e := e) (sz := 1) (z := .bool false) (n := n) hx hy hn rfl hby rfl
  rwa [bools_rep, hk] at this
theorem opv_bs_at {t e k0 : Nat} {x : Operand} {v : AV} {z : List AV} [S : Slc P t e 1] [Z : Ze P e z] (hk : O.length = k0) (hx : evT T x = v) (hv : v.one = true) (hbd : v.bd k0) :
    OpV P ro ⟨dst, .buildSlice t 1 #[(0, x)], ty, pos, af, g⟩ T O (.own k0 0) (O ++ [.vbuf e [v]]) := by
  subst hk; exact opv_bs_v hx hv hbd
theorem opv_index_row {x ix : Operand} {t e id : Nat} {i : Int} {r : List Bool} [S : Slc P t e 1] (hx : evT T x = .own id 1) (hO : O[id]? = some (.buf e 1 (bools r) 1)) (hi : evT T ix = .d (.int .i64 i)) (h0 : 0 ≤ i) (hl : i < (r.length : Nat)) :
    OpV P ro ⟨dst, .indexAddr t x ix, ty, pos, af, g⟩ T O (.oel id 1 i.toNat 0) O := opv_index_own hx hO hi h0 (by rw [bools_len]; exact hl)
theorem opv_load_row {x : Operand} {t e id i : Nat} {r : List Bool} [S : Sz P t 1 false] (hx : evT T x = .oel id 1 i 0) (hO : O[id]? = some (.buf e 1 (bools r) 1)) (hi : i < r.length) :
    OpV P ro ⟨dst, .load t x, ty, pos, af, g⟩ T O (.d (.bool r[i])) O := opv_load_oel (y := .bool r[i]) hx hO (by simp [bools, hi]) rfl
theorem opv_store_row {p x : Operand} {t e id i : Nat} {r : List Bool} {b : Bool} [S : Sz P t 1 false] (hp : evT T p = .oel id 1 i 0) (hO : O[id]? = some (.buf e 1 (bools r) 1)) (hx : evT T x = .d (.bool b)) (hi : i < r.length) :
    OpV P ro ⟨dst, .store t p x, ty, pos, af, g⟩ T O .unk (O.set id (.buf e 1 (bools (r.set i b)) 1)) := by
  have := opv_store_oel (P := P) (ro := ro) (dst := dst) (ty := ty) (pos := pos) (af := af) (g := g) (t := t) (v := .d (.bool b)) (y := .bool b) hp hO hx rfl (by rw [bools_len]; exact hi) rfl rfl
  rwa [bools_set] at this
theorem opv_append_T {s x : Operand} {t et e by_ u : Nat} {M : List (List Bool)} {r : List Bool} {z : List AV} [S : Slc P t et 1] [Z : Ze P et z] [B : Byt P et by_] (hu : M.length = u) (hs : evT T s = tA u) (hx : evT T x = .own (3 * u + 1) 0) (hO : O = tobjs e et M ++ [.buf e 1 (bools r) 1] ++ [.vbuf et [.own (3 * u) 1]]) (hm : u ≤ 1000) (hz : Nat.beq z.length 1 = true := by rfl) (hby : Nat.ble by_ 4096 = true := by rfl) :
    OpV P ro ⟨dst, .call { callee := .builtin .append, args := #[s, x], argTypes := #[t, t] }, ty, pos, af, g⟩ T O (.own (3 * u + 2) 0) (tobjs e et (M ++ [r])) := by
  subst hu
  subst hO
  have hl : (tobjs e et M ++ [AObj.buf e 1 (bools r) 1] ++ [AObj.vbuf et [.own (3 * M.length) 1]]).length = 3 * M.length + 2 := by simp [tobjs_len]
  have hO1 : (tobjs e et M ++ [AObj.buf e 1 (bools r) 1] ++ [AObj.vbuf et [.own (3 * M.length) 1]])[3 * M.length + 1]? = some (.vbuf et [.own (3 * M.length) 1]) := obj_last (by simp [tobjs_len])
  rw [tobjs_snoc]
  by_cases h0 : M.length = 0
  · have hM : M = [] := List.eq_nil_of_length_eq_zero h0
    have hs' : evT T s = .nil0 := by rw [hs]; unfold tA; rw [if_pos h0]
    have := opv_append_v0 (P := P) (ro := ro) (dst := dst) (ty := ty) (pos := pos) (af := af) (g := g) (t := t) hs' hx hO1 (by simp) (by simp) hz hby
    rw [hl] at this
    subst hM
    simpa [tobjs, ownsT] using this
  · have hs' : evT T s = .own (3 * M.length - 1) 0 := by rw [hs]; unfold tA; rw [if_neg h0]
    have hO2 : (tobjs e et M ++ [AObj.buf e 1 (bools r) 1] ++ [AObj.vbuf et [.own (3 * M.length) 1]])[3 * M.length - 1]? = some (.vbuf et (ownsT M.length)) := by
      rw [List.append_assoc, List.getElem?_append_left (by rw [tobjs_len]; omega)]; exact tobjs_last (by omega)
    have := opv_append_v (P := P) (ro := ro) (dst := dst) (ty := ty) (pos := pos) (af := af) (g := g) (t := t) hs' hO2 hx hO1 (by simp) (by rw [ownsT_len]; simp; omega) hz hby
    rw [hl, ← ownsT_succ] at this
    rw [if_neg h0]
    exact this
/-! Tables that are data. -/
theorem opv_len_rows {x : Operand} {t e : TypeId} {M : List (List Bool)} [S : Und P t (.slice e)] (hx : evT T x = .d (.list (rowsD M))) :
    OpV P ro ⟨dst, .call { callee := .builtin .len, args := #[x], argTypes := #[t] }, ty, pos, af, g⟩ T O (.d (.int .i64 M.length)) O := by
  have := opv_len (P := P) (ro := ro) (dst := dst) (ty := ty) (pos := pos) (af := af) (g := g) (O := O) (t := t) hx rfl rfl
  rwa [rowsD_len] at this
theorem opv_index_rows {x ix : Operand} {t e : Nat} {i : Int} {M : List (List Bool)} [S : Slc P t e 1] (hx : evT T x = .d (.list (rowsD M))) (hi : evT T ix = .d (.int .i64 i)) (h0 : 0 ≤ i) (hl : i.toNat < M.length) :
    OpV P ro ⟨dst, .indexAddr t x ix, ty, pos, af, g⟩ T O (.d (.ptr [.list (bools M[i.toNat])])) O := opv_index_list (y := .list (bools M[i.toNat])) hx hi h0 (rows_get hl) rfl
theorem opv_index_bools {x ix : Operand} {t e : Nat} {i : Int} {r : List Bool} [S : Slc P t e 1] (hx : evT T x = .d (.list (bools r))) (hi : evT T ix = .d (.int .i64 i)) (h0 : 0 ≤ i) (hl : i.toNat < r.length) :
    OpV P ro ⟨dst, .indexAddr t x ix, ty, pos, af, g⟩ T O (.d (.ptr [.bool r[i.toNat]])) O := opv_index_list (y := .bool r[i.toNat]) hx hi h0 (by simp [bools, hl]) rfl
end
end Go.Proofs.Ytljmkgjemmoegaa.AM
