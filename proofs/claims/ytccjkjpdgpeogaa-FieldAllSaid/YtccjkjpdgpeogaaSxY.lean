/- Stores into lists of records, and copy. -/
import Derived.Test.YtccjkjpdgpeogaaSx10
namespace Go.Sx
open Go
set_option linter.unusedSimpArgs false
set_option linter.unusedVariables false

theorem flat_rng {z i i' t b m : Nat} (ht : t < z) (hb : b + m ≤ z) : (i * z + b ≤ i' * z + t ∧ i' * z + t < i * z + b + m) ↔ (i' = i ∧ b ≤ t ∧ t < b + m) := by
  rcases Nat.lt_trichotomy i' i with h | h | h
  · have : (i' + 1) * z ≤ i * z := Nat.mul_le_mul_right _ h
    rw [Nat.add_mul, Nat.one_mul] at this
    constructor
    · intro q; omega
    · intro q; omega
  · subst h; constructor
    · intro q; omega
    · intro q; omega
  · have : (i + 1) * z ≤ i' * z := Nat.mul_le_mul_right _ h
    rw [Nat.add_mul, Nat.one_mul] at this
    constructor
    · intro q; omega
    · intro q; omega

theorem rowVal_set {L : Loc} {col' : Col} : ∀ {cs : List Col} {b c0 c : Nat} {col : Col}, colAt cs b c0 = some (c, col) → col'.kd = col.kd → ∀ i t,
    rowVal L (setCol cs (c - c0) col') c0 i t = if b ≤ t ∧ t < b + col.kd.width then colVal L c col' i (t - b) else rowVal L cs c0 i t
  | [], _, _, _, _, h, _ => by simp [colAt] at h
  | x :: r, 0, c0, c, col, h, hk => fun i t => by
    simp only [colAt, Option.some.injEq, Prod.mk.injEq] at h
    obtain ⟨rfl, rfl⟩ := h
    simp only [Nat.sub_self, setCol, rowVal, hk, Nat.zero_le, true_and, Nat.zero_add, Nat.sub_zero]
    split <;> rfl
  | x :: r, b + 1, c0, c, col, h, hk => fun i t => by
    simp only [colAt] at h
    split at h
    · rename_i hle
      have hle' : x.kd.width ≤ b + 1 := Nat.le_of_ble_eq_true hle
      have h1 := (colAt_sound (L := L) h).1
      have ih := rowVal_set (L := L) (col' := col') h hk i (t - x.kd.width)
      obtain ⟨d, hd⟩ : ∃ d, c - c0 = d + 1 := ⟨c - (c0 + 1), by omega⟩
      rw [hd]
      simp only [setCol, rowVal]
      rw [show d = c - (c0 + 1) by omega, ih]
      by_cases ht : t < x.kd.width
      · rw [if_pos ht, if_pos ht, if_neg (by omega)]
      · rw [if_neg ht, if_neg ht]
        by_cases hq : b + 1 ≤ t ∧ t < b + 1 + col.kd.width
        · rw [if_pos hq, if_pos (by omega)]
          congr 1; omega
        · rw [if_neg hq, if_neg (by omega)]
    · cases h

theorem setCol_kds : ∀ {cs : List Col} {c : Nat} {col col' : Col}, cs[c]? = some col → col'.kd = col.kd → kdsOf (setCol cs c col') = kdsOf cs
  | [], c, _, _, h, _ => by simp at h
  | x :: r, 0, col, col', h, hk => by simp at h; subst h; simp [setCol, kdsOf, hk]
  | x :: r, c + 1, col, col', h, hk => by
    have := setCol_kds (cs := r) (c := c) (by simpa using h) hk
    simp only [setCol, kdsOf, List.map_cons] at this ⊢
    rw [this]

theorem setCol_get : ∀ {cs : List Col} {c : Nat} {col' : Col} (j : Nat), c < cs.length → (setCol cs c col')[j]? = if j = c then some col' else cs[j]?
  | [], c, _, j, h => by simp at h
  | x :: r, 0, col', j, _ => by cases j <;> simp [setCol]
  | x :: r, c + 1, col', 0, _ => by simp [setCol]
  | x :: r, c + 1, col', j + 1, h => by
    simp only [setCol, List.getElem?_cons_succ]
    rw [setCol_get j (by simpa using h)]
    simp

theorem setCol_mem {cs : List Col} {c : Nat} {col' x : Col} (hc : c < cs.length) (h : x ∈ setCol cs c col') : x = col' ∨ x ∈ cs := by
  obtain ⟨j, hj⟩ := List.mem_iff_getElem?.1 h
  rw [setCol_get j hc] at hj
  split at hj
  · cases hj; exact Or.inl rfl
  · exact Or.inr (List.mem_of_getElem? hj)

section
variable {P : Program} {E : Env} {ρ : Rho} {fr : Fr} {σ : Mem} {a : Act} {w : World}

/-- a store into one column of one record -/
theorem col_store (h : Rep E ρ fr σ a w) {n b c i j0 : Nat} {cs : List Col} {col col' : Col} {vs : List Value} (hn : Mem.find σ n = some (.vec cs)) (hc : colAt cs b 0 = some (c, col)) (hkd : col'.kd = col.kd) (hok : col'.ok (ρ n).len) (hrow : ∀ k ll, col' ≠ .rows k ll) (hi : i < (ρ n).len)
    (hm : j0 + vs.length ≤ col.kd.width) (h1 : ∀ u ∈ vs, u.oneCell' = true) (hv : ∀ i' t, t < col.kd.width → some (colVal (ρ n) c col' i' t) = if i' = i ∧ j0 ≤ t ∧ t < j0 + vs.length then vs[t - j0]? else some (colVal (ρ n) c col i' t)) :
    ∃ w', (storeCells (at_ ρ n (i * cwidth cs + b + j0)) vs).run P w = .ok () w' ∧ w'.heap.size = w.heap.size ∧ Rep E ρ fr (σ.put n (.vec (setCol cs c col'))) a w' ∧ ∀ k, k ≠ (ρ n).1 → w'.heap[k]? = w.heap[k]? := by
  obtain ⟨_, q2, q3, q4⟩ := colAt_sound (L := ρ n) hc
  have q2 : cs[c]? = some col := by simpa using q2
  have hlt : c < cs.length := (List.getElem?_eq_some_iff.1 q2).1
  have hV := (h.mem n _ hn).1
  have hfit : i * cwidth cs + b + j0 + vs.length ≤ (ρ n).len * cwidth cs := by
    have : (i + 1) * cwidth cs ≤ (ρ n).len * cwidth cs := Nat.mul_le_mul_right _ hi
    rw [Nat.add_mul, Nat.one_mul] at this; omega
  refine vec_store h hn (setCol_kds q2 hkd) (fun x hx => ?_) (fun c' k ll hcc => ?_) hfit h1 (fun i' hi' t ht => ?_)
  · rcases setCol_mem hlt hx with rfl | hx
    · exact hok
    · exact hV.ok x hx
  · rw [setCol_get c' hlt] at hcc
    split at hcc
    · cases hcc; exact absurd rfl (hrow k ll)
    · exact hcc
  · have hs := rowVal_set (L := ρ n) (col' := col') hc hkd i' t
    rw [Nat.sub_zero] at hs
    rw [hs]
    have hr := flat_rng (z := cwidth cs) (i := i) (i' := i') (t := t) (b := b + j0) (m := vs.length) ht (by omega)
    rw [← Nat.add_assoc] at hr
    by_cases hb : b ≤ t ∧ t < b + col.kd.width
    · rw [if_pos hb, hv i' (t - b) (by omega)]
      by_cases hin : i' = i ∧ b + j0 ≤ t ∧ t < b + j0 + vs.length
      · rw [if_pos (hr.2 hin), if_pos (by omega)]
        obtain ⟨rfl, _⟩ := hin
        congr 1; omega
      · rw [if_neg (fun q => hin (hr.1 q)), if_neg (by omega)]
        have := q4 i' (t - b) (by omega)
        rw [show b + (t - b) = t by omega] at this
        rw [this]
    · rw [if_neg hb, if_neg (fun q => by have := hr.1 q; omega)]

theorem lset_get (l : List Int) (i i' : Nat) (v : Int) (hi : i < l.length) : lget (lset l i v) i' = if i' = i then v else lget l i' := by
  simp only [lget, lset, List.getD, List.getElem?_set]
  by_cases h : i = i'
  · subst h; simp [hi]
  · simp [h, Ne.symm h]
theorem lsetb_get (l : List Bool) (i i' : Nat) (v : Bool) (hi : i < l.length) : lgetb (lsetb l i v) i' = if i' = i then v else lgetb l i' := by
  simp only [lgetb, lsetb, List.getD, List.getElem?_set]
  by_cases h : i = i'
  · subst h; simp [hi]
  · simp [h, Ne.symm h]
theorem llset_get (l : List (List Int)) (i i' : Nat) (v : List Int) (hi : i < l.length) : llget (llset l i v) i' = if i' = i then v else llget l i' := by
  simp only [llget, llset, List.getD, List.getElem?_set]
  by_cases h : i = i'
  · subst h; simp [hi]
  · simp [h, Ne.symm h]

theorem storeV_sound {T : TypeId} {n z i b j : Nat} {x : AV} {v v1 : Value} {K : Mem → Prop} (h : storeV P σ T n z i b j x K) (hR : Rep E ρ fr σ a w) (hx : SRep ρ x v) (hp : SRep ρ (.one (.vptr n z i b j)) v1) :
    ∃ A w' σ' bk, v1 = .pointer (some A) ∧ (storeVar T A v).run P w = .ok () w' ∧ w'.heap.size = w.heap.size ∧ Rep E ρ fr σ' a w' ∧ K σ' ∧ (∀ k, k ≠ (ρ n).1 → w'.heap[k]? = w.heap[k]?) ∧ (∀ m, m ≠ n → Mem.find σ' m = Mem.find σ m) ∧ Mem.find σ n = some bk ∧ Out ρ n bk (ρ n).1 := by
  obtain ⟨rfl, hi⟩ := hp
  unfold storeV at h
  split at h <;> try exact h.elim
  rename_i cs hn
  split at h <;> try exact h.elim
  rename_i hz
  have hz' : z = cwidth cs := beq_nat hz
  subst hz'
  have hV := (hR.mem n _ hn).1
  have hcap : (ρ n).cap ≠ 0 := by have := hV.cap; omega
  have hO : Out ρ n (.vec cs) (ρ n).1 := ⟨hcap, rfl⟩
  have okc : ∀ {c : Nat} {col : Col}, colAt cs b 0 = some (c, col) → col.ok (ρ n).len := fun {c col} hc => hV.ok _ (List.mem_of_getElem? (by have := (colAt_sound (L := ρ n) hc).2.1; simpa using this))
  have fin : ∀ {c : Nat} {col col' : Col} {vs : List Value} {s : Nat} {j0 : Nat}, sizeB P T = some s → v.cells.size = s → vs = v.cells.toList → colAt cs b 0 = some (c, col) → col'.kd = col.kd → col'.ok (ρ n).len → (∀ k ll, col' ≠ .rows k ll) → j0 = j → j0 + vs.length ≤ col.kd.width →
      (∀ u ∈ vs, u.oneCell' = true) → (∀ i' t, t < col.kd.width → some (colVal (ρ n) c col' i' t) = if i' = i ∧ j0 ≤ t ∧ t < j0 + vs.length then vs[t - j0]? else some (colVal (ρ n) c col i' t)) → K (σ.put n (.vec (setCol cs c col'))) →
      ∃ A w' σ' bk, Value.pointer (some (at_ ρ n (i * cwidth cs + b + j))) = .pointer (some A) ∧ (storeVar T A v).run P w = .ok () w' ∧ w'.heap.size = w.heap.size ∧ Rep E ρ fr σ' a w' ∧ K σ' ∧ (∀ k, k ≠ (ρ n).1 → w'.heap[k]? = w.heap[k]?) ∧ (∀ m, m ≠ n → Mem.find σ' m = Mem.find σ m) ∧ Mem.find σ n = some bk ∧ Out ρ n bk (ρ n).1 := fun {c col col' vs s j0} hsz hvs hvs' hc hkd hok hrow hj hm h1 hv hK => by
    subst hvs' hj
    obtain ⟨w', e1, e2, e3, e4⟩ := col_store (P := P) hR hn hc hkd hok hrow hi hm h1 hv
    exact ⟨_, w', _, _, rfl, storeVar_run hsz hvs e1, e2, e3, hK, e4, fun m hm => by rw [find_put, if_neg hm], hn, hO⟩
  split at h
  · rename_i hag hsz
    split at h
    · rename_i c k l k' v' hc
      cases (show v = _ from hx)
      split at h <;> try exact h.elim
      split at h <;> try exact h.elim
      rename_i hk
      subst hk
      have hl : l.length = (ρ n).len := okc hc
      refine fin (col' := .ints k (lset l i v')) (vs := [.int k v']) (j0 := 0) hsz rfl rfl hc rfl (by simp [Col.ok, lset, hl]) (by simp) rfl (by show 0 + 1 ≤ 1; omega) (by simp [Value.oneCell']) (fun i' t ht => ?_) h
      have ht : t = 0 := by have : t < 1 := ht; omega
      subst ht
      simp only [colVal, lset_get _ _ _ _ (show i < l.length by omega)]
      by_cases hii : i' = i <;> simp [hii]
    · rename_i c l v' hc
      cases (show v = _ from hx)
      split at h <;> try exact h.elim
      have hl : l.length = (ρ n).len := okc hc
      refine fin (col' := .bools (lsetb l i v')) (vs := [.bool v']) (j0 := 0) hsz rfl rfl hc rfl (by simp [Col.ok, lsetb, hl]) (by simp) rfl (by show 0 + 1 ≤ 1; omega) (by simp [Value.oneCell']) (fun i' t ht => ?_) h
      have ht : t = 0 := by have : t < 1 := ht; omega
      subst ht
      simp only [colVal, lsetb_get _ _ _ _ (show i < l.length by omega)]
      by_cases hii : i' = i <;> simp [hii]
    · rename_i c l v' hc
      cases (show v = _ from hx)
      split at h <;> try exact h.elim
      have hl : l.length = (ρ n).len := okc hc
      refine fin (col' := .bools (lsetb l i v')) (vs := [.bool v']) (j0 := 0) hsz rfl rfl hc rfl (by simp [Col.ok, lsetb, hl]) (by simp) rfl (by show 0 + 1 ≤ 1; omega) (by simp [Value.oneCell']) (fun i' t ht => ?_) h
      have ht : t = 0 := by have : t < 1 := ht; omega
      subst ht
      simp only [colVal, lsetb_get _ _ _ _ (show i < l.length by omega)]
      by_cases hii : i' = i <;> simp [hii]
    · rename_i c k m l k' v' hc
      cases (show v = _ from hx)
      split at h <;> try exact h.elim
      rename_i hk
      subst hk
      obtain ⟨hj, h⟩ := h
      have hj := hj.lt
      obtain ⟨hl, hall⟩ := okc hc
      have hli : (llget l i).length = m := hall _ (List.mem_of_getElem? (llget_some (by omega)))
      refine fin (col' := .arrs k m (llset l i (lset (llget l i) j v'))) (vs := [.int k v']) (j0 := j) hsz rfl rfl hc rfl ⟨by simp [llset, hl], fun x hx => ?_⟩ (by simp) rfl (by show j + 1 ≤ m; omega) (by simp [Value.oneCell']) (fun i' t ht => ?_) h
      · simp only [llset] at hx
        rcases List.mem_or_eq_of_mem_set hx with hx | rfl
        · exact hall x hx
        · simp [lset, hli]
      · simp only [colVal, llset_get _ _ _ _ (show i < l.length by omega)]
        by_cases hii : i' = i
        · subst hii
          rw [if_pos rfl, lset_get _ _ _ _ (by omega)]
          by_cases htj : t = j
          · subst htj; simp
          · rw [if_neg htj, if_neg (by simp; omega)]
        · rw [if_neg hii, if_neg (by simp [hii])]
    · exact h.elim
  · rename_i s hag hsz
    split at h <;> try exact h.elim
    rename_i c k m l k' m' v' hc
    split at h <;> try exact h.elim
    rename_i hk
    split at h <;> try exact h.elim
    rename_i hm
    split at h <;> try exact h.elim
    rename_i hs
    subst hk hm hs
    obtain ⟨hvl, rfl⟩ := srep_ints hx
    obtain ⟨hl, hall⟩ := okc hc
    refine fin (col' := .arrs k m' (llset l i v')) (vs := v'.map (Value.int k)) (j0 := 0) hsz (by simp [Value.cells, hvl]) (by simp [Value.cells]) hc rfl ⟨by simp [llset, hl], fun x hx => ?_⟩ (by simp) rfl (by simp [hvl, Col.kd, Kd.width]) (fun u hu => ?_) (fun i' t ht => ?_) h
    · simp only [llset] at hx
      rcases List.mem_or_eq_of_mem_set hx with hx | rfl
      · exact hall x hx
      · exact hvl
    · obtain ⟨_, _, rfl⟩ := List.mem_map.1 hu; rfl
    · have ht : t < m' := ht
      simp only [colVal, llset_get _ _ _ _ (show i < l.length by omega)]
      by_cases hii : i' = i
      · subst hii
        rw [if_pos rfl, if_pos ⟨rfl, by omega, by simp; omega⟩]
        simp [lget, List.getD, show t < v'.length by omega]
      · rw [if_neg hii, if_neg (by simp [hii])]
  · exact h.elim
end
end Go.Sx
