import Derived.Test.YtnpfockaigegiaaDropTellsUptoC
import Derived.Test.YtnpfockaigegiaaProg
set_option linter.unusedSimpArgs false
set_option linter.unusedVariables false
namespace Go.Sx
open Go
def tab {α : Type} (n : Nat) (g : Nat → α) : List α := (List.range n).map g
theorem tab_len {α : Type} (n : Nat) (g : Nat → α) : (tab n g).length = n := by simp [tab]
theorem tab_get? {α : Type} (n : Nat) (g : Nat → α) (i : Nat) : (tab n g)[i]? = if i < n then some (g i) else none := by
 simp only [tab, List.getElem?_map, List.getElem?_range]
 by_cases h : i < n
 ·simp [h, List.getElem?_range]
 ·simp [h]
theorem tab_ext {α : Type} {n : Nat} {g h : Nat → α} (e : ∀ i, i < n → g i = h i) : tab n g = tab n h := by
 refine List.map_congr_left fun i hi => e i (by simpa using hi)
theorem list_ext {α : Type} {a b : List α} (hl : a.length = b.length) (h : ∀ i, i < a.length → a[i]? = b[i]?) : a = b := by
 refine List.ext_getElem? fun i => ?_
 by_cases hi : i < a.length
 ·exact h i hi
 ·rw [List.getElem?_eq_none (by omega), List.getElem?_eq_none (by omega)]
theorem eq_tab {l : List Int} {n : Nat} (h : l.length = n) : l = tab n (lget l) := by
 subst h
 refine list_ext (by simp [tab_len]) fun j hj => ?_
 rw [tab_get?, if_pos hj]
 simp [lget, List.getD, hj]
theorem tab_succ {α : Type} (n : Nat) (g : Nat → α) : tab (n + 1) g = tab n g ++ [g n] := by simp [tab, List.range_succ]
def upto {α : Type} (n i : Nat) (F G : Nat → α) : List α := tab n fun j => if j < i then F j else G j
theorem nat_cast (n : Nat) : nat (n : Int) = n := rfl
theorem nadd_def (a b : Nat) : nadd a b = a + b := rfl
theorem ofNat_def (a : Nat) : ofNat a = (a : Int) := rfl
theorem llen_def {α : Type} (l : List α) : llen l = l.length := rfl
theorem add1_i64 {a : Nat} (h : a < 9223372036854775807) : add .i64 (a : Int) 1 = ((a + 1 : Nat) : Int) := by
 rw [add_i64 (by omega) (by omega)]; omega
theorem addN_i64 {a b : Nat} (h : a + b < 9223372036854775808) : add .i64 (a : Int) (b : Int) = ((a + b : Nat) : Int) := by
 rw [add_i64 (by omega) (by omega)]; omega
theorem loop_up {S : Type} (L : Nat → Int → S → Prop) (n : Nat) (st : Nat → S) (hs : ∀ f i, i < n → L f ((i + 1 : Nat) : Int) (st (i + 1)) → L (f + 1) (i : Int) (st i)) (he : ∀ f, L (f + 1) (n : Int) (st n)) :
  ∀ i, i ≤ n → ∀ m, L (n - i + 1 + m) (i : Int) (st i) := by
 intro i hi m
 induction hk : n - i generalizing i with
 | zero =>
  obtain rfl : i = n := by omega
  rw [show 0 + 1 + m = m + 1 by omega]; exact he m
 | succ k ih =>
  rw [show k + 1 + 1 + m = (k + 1 + m) + 1 by omega]
  exact hs _ i (by omega) (ih (i + 1) (by omega) (by omega))
theorem loop_n {S : Type} (L : Nat → Int → S → Prop) (n : Nat) (st : Nat → S) (c f0 : Nat) (hs : ∀ g i, i < n → L g ((i + 1 : Nat) : Int) (st (i + 1)) → L (g + c) (i : Int) (st i)) (he : L f0 (n : Int) (st n)) :
  ∀ i, i ≤ n → L (f0 + c * (n - i)) (i : Int) (st i) := by
 intro i hi
 induction hk : n - i generalizing i with
 | zero =>
  obtain rfl : i = n := by omega
  exact he
 | succ k ih =>
  rw [Nat.mul_succ, ← Nat.add_assoc]
  exact hs _ i (by omega) (ih (i + 1) (by omega) (by omega))
def tot (c : Nat → Nat) : Nat → Nat → Nat
 | _, 0 => 0
 | i, m + 1 => c i + tot c (i + 1) m
theorem loop_inv {S : Type} (L : Nat → Int → S → Prop) (n : Nat) (Inv : Nat → S → Prop) (c : Nat → Nat) (f0 : Nat) (hs : ∀ g i s, i < n → Inv i s → (∀ s', Inv (i + 1) s' → L g ((i + 1 : Nat) : Int) s') → L (g + c i) (i : Int) s) (he : ∀ s, Inv n s → L f0 (n : Int) s) :
  ∀ m i s, i + m = n → Inv i s → L (f0 + tot c i m) (i : Int) s
 | 0, i, s, h, hi => by
  obtain rfl : i = n := by omega
  exact he s hi
 | m + 1, i, s, h, hi => by
  have := hs (f0 + tot c (i + 1) m) i s (by omega) hi fun s' h' => loop_inv L n Inv c f0 hs he m (i + 1) s' (by omega) h'
  rw [show f0 + tot c i (m + 1) = f0 + tot c (i + 1) m + c i by simp only [tot]; omega]
  exact this
theorem loop_inv_ex {S : Type} (L : Nat → Int → S → Prop) (n : Nat) (Inv : Nat → S → Prop) (c : Nat → Nat) (f0 : Nat) (hs : ∀ g i s, i < n → Inv i s → (∀ s', Inv (i + 1) s' → L g ((i + 1 : Nat) : Int) s') → L (g + c i) (i : Int) s) (he : ∀ s, Inv n s → L f0 (n : Int) s) :
  ∃ F, ∀ s, Inv 0 s → L F 0 s := ⟨f0 + tot c 0 n, fun s h => loop_inv L n Inv c f0 hs he n 0 s (by omega) h⟩
theorem hget_set (l : List HS) (i i' : Nat) (v : HS) (hi : i < l.length) : hget (hset l i v) i' = if i' = i then v else hget l i' := by
 simp only [hget, hset, List.getD, List.getElem?_set]
 by_cases h : i = i'
 ·subst h; simp [hi]
 ·simp [h, Ne.symm h]
theorem lget_lput (l v : List Int) (p t : Nat) (h : p ≤ l.length) : lget (lput l p v) t = if p ≤ t ∧ t < p + v.length then lget v (t - p) else lget l t := by
 simp only [lget, List.getD]
 rw [lput_get2 _ _ _ _ h]
 split <;> rfl
theorem llget_app (H : List (List Int)) (x : List Int) (q : Nat) : llget (H ++ [x]) q = if q < H.length then llget H q else if q = H.length then x else [] := by
 simp only [llget, List.getD, List.getElem?_append]
 by_cases h : q < H.length
 ·rw [if_pos h, if_pos h]
 ·rw [if_neg h, if_neg h]
  by_cases e : q = H.length
  ·rw [if_pos e, e, Nat.sub_self]; rfl
  ·rw [if_neg e, List.getElem?_eq_none (by simp; omega)]; rfl
theorem lget_app (a b : List Int) (t : Nat) : lget (a ++ b) t = if t < a.length then lget a t else lget b (t - a.length) := lget_cat a b t
theorem lget_sub (l : List Int) (o n t : Nat) (h : t < n) : lget (lsub l o n) t = lget l (o + t) := by
 simp only [lget, lsub, List.getD, List.getElem?_take, if_pos h, List.getElem?_drop]
structure Grown2 (ls : List HS) (m g : Nat → Int) (c : Nat → Nat) (gs : List HS) (H : List (List Int)) : Prop where
 len : gs.length = ls.length
 z : llget H 0 = []
 own : ∀ k, k < ls.length → (hget gs k).j < H.length ∧ (hget gs k).len = (hget ls k).len + c k ∧ (hget gs k).off + (hget gs k).len ≤ (llget H (hget gs k).j).length ∧ ∀ t, t < (hget gs k).len → lget (llget H (hget gs k).j) ((hget gs k).off + t) = if t < (hget ls k).len then m k else g k
 old : ∀ k, k < ls.length → (hget ls k).j < H.length ∧ (hget ls k).off + (hget ls k).len ≤ (llget H (hget ls k).j).length ∧ ∀ t, t < (hget ls k).len → lget (llget H (hget ls k).j) ((hget ls k).off + t) = m k
 same : ∀ k, k < ls.length → (hget gs k).j = (hget ls k).j → (hget gs k).off = (hget ls k).off ∨ (hget gs k).j = 0
 ne : ∀ k k', k < ls.length → k' < ls.length → k ≠ k' → ((hget gs k).j = (hget gs k').j → (hget gs k).j = 0) ∧ ((hget gs k).j = (hget ls k').j → (hget gs k).j = 0)
theorem grown2_step {ls gs H H' : _} {m g : Nat → Int} {c : Nat → Nat} {k j' off' r : Nat} (hr : 0 < r) (h : Grown2 ls m g c gs H) (hk : k < ls.length) (hA : AppR H (hget gs k).j (hget gs k).off (hget gs k).len (List.replicate r (g k)) H' j' off') :
  Grown2 ls m g (fun i => if i = k then c k + r else c i) (hset gs k ⟨j', off', (hget gs k).len + r⟩) H' := by
 obtain ⟨o1, o2, o3, o4⟩ := h.own k hk
 have hkg : k < gs.length := by rw [h.len]; exact hk
 cases hA with
 | here hj0 =>
  have hj0 := hj0 (by simp; omega)
  have obj : ∀ q, llget (llset H (hget gs k).j (lput (llget H (hget gs k).j) ((hget gs k).off + (hget gs k).len) (List.replicate r (g k)))) q = if q = (hget gs k).j then lput (llget H (hget gs k).j) ((hget gs k).off + (hget gs k).len) (List.replicate r (g k)) else llget H q := fun q => llset_get _ _ _ _ o1
  have hl : ∀ q, (llget H q).length ≤ (llget (llset H (hget gs k).j (lput (llget H (hget gs k).j) ((hget gs k).off + (hget gs k).len) (List.replicate r (g k)))) q).length := fun q => by
   rw [obj]; split
   ·rename_i e; rw [e, lput_len2 _ _ _ o3]; omega
   ·exact Nat.le_refl _
  have low : ∀ t, t < (hget gs k).off + (hget gs k).len → lget (lput (llget H (hget gs k).j) ((hget gs k).off + (hget gs k).len) (List.replicate r (g k))) t = lget (llget H (hget gs k).j) t := fun t ht => by
   rw [lget_lput _ _ _ _ o3, if_neg (by omega)]
  refine ⟨by simp [hset, h.len], ?_, fun i hi => ?_, fun i hi => ?_, fun i hi => ?_, fun i i' hi hi' hii => ?_⟩
  ·rw [obj, if_neg (Ne.symm hj0)]; exact h.z
  ·rw [hget_set _ _ _ _ hkg]
   by_cases e : i = k
   ·subst e
    simp only [if_true]
    refine ⟨by simpa [llset] using o1, by omega, ?_, fun t ht => ?_⟩
    ·rw [obj, if_pos rfl, lput_len2 _ _ _ o3]; simp; omega
    ·rw [obj, if_pos rfl]
     by_cases ht' : t < (hget gs i).len
     ·rw [low _ (by omega)]; exact o4 t ht'
     ·rw [lget_lput _ _ _ _ o3, if_pos (by simp; omega), if_neg (by omega)]
      simp only [lget, List.getD, List.getElem?_replicate]
      rw [if_pos (by omega)]; rfl
   ·simp only [if_neg e]
    obtain ⟨p1, p2, p3, p4⟩ := h.own i hi
    have hd : (hget gs i).j ≠ (hget gs k).j := fun q => hj0 (by have := (h.ne k i hk hi (Ne.symm e)).1 q.symm; exact this)
    refine ⟨by simpa [llset] using p1, p2, Nat.le_trans p3 (hl _), fun t ht => ?_⟩
    rw [obj, if_neg hd]; exact p4 t ht
  ·obtain ⟨p1, p2, p3⟩ := h.old i hi
   refine ⟨by simpa [llset] using p1, Nat.le_trans p2 (hl _), fun t ht => ?_⟩
   rw [obj]
   split
   ·rename_i e
    by_cases hik : i = k
    ·subst hik
     rcases h.same i hi e.symm with q | q
     ·rw [low _ (by omega), ← e]; exact p3 t ht
     ·exact absurd q hj0
    ·exact absurd ((h.ne k i hk hi (Ne.symm hik)).2 e.symm) hj0
   ·exact p3 t ht
  ·rw [hget_set _ _ _ _ hkg]
   by_cases e : i = k
   ·subst e; simp only [if_true]; exact h.same i hi
   ·simp only [if_neg e]; exact h.same i hi
  ·rw [hget_set _ _ _ _ hkg, hget_set _ _ _ _ hkg]
   by_cases e : i = k
   ·subst e
    rw [if_pos rfl, if_neg (Ne.symm hii)]
    exact h.ne i i' hi hi' hii
   ·rw [if_neg e]
    by_cases e' : i' = k
    ·subst e'; rw [if_pos rfl]; exact h.ne i i' hi hi' hii
    ·rw [if_neg e']; exact h.ne i i' hi hi' hii
 | new =>
  have obj : ∀ q, q < H.length → llget (H ++ [lsub (llget H (hget gs k).j) (hget gs k).off (hget gs k).len ++ (List.replicate r (g k))]) q = llget H q := fun q hq => by rw [llget_app, if_pos hq]
  have top : llget (H ++ [lsub (llget H (hget gs k).j) (hget gs k).off (hget gs k).len ++ (List.replicate r (g k))]) H.length = lsub (llget H (hget gs k).j) (hget gs k).off (hget gs k).len ++ (List.replicate r (g k)) := by rw [llget_app, if_neg (by omega), if_pos rfl]
  have hsl : (lsub (llget H (hget gs k).j) (hget gs k).off (hget gs k).len).length = (hget gs k).len := lsub_len _ _ _ o3
  refine ⟨by simp [hset, h.len], ?_, fun i hi => ?_, fun i hi => ?_, fun i hi => ?_, fun i i' hi hi' hii => ?_⟩
  ·rw [obj _ (by omega)]; exact h.z
  ·rw [hget_set _ _ _ _ hkg]
   by_cases e : i = k
   ·subst e
    simp only [if_true]
    refine ⟨by simp, by omega, ?_, fun t ht => ?_⟩
    ·rw [top, List.length_append, hsl]; simp
    ·rw [top, Nat.zero_add, lget_app, hsl]
     by_cases ht' : t < (hget gs i).len
     ·rw [if_pos ht', lget_sub _ _ _ _ ht']; exact o4 t ht'
     ·rw [if_neg ht', if_neg (by omega)]
      simp only [lget, List.getD, List.getElem?_replicate]
      rw [if_pos (by omega)]; rfl
   ·simp only [if_neg e]
    obtain ⟨p1, p2, p3, p4⟩ := h.own i hi
    refine ⟨by simp; omega, p2, by rw [obj _ p1]; exact p3, fun t ht => by rw [obj _ p1]; exact p4 t ht⟩
  ·obtain ⟨p1, p2, p3⟩ := h.old i hi
   exact ⟨by simp; omega, by rw [obj _ p1]; exact p2, fun t ht => by rw [obj _ p1]; exact p3 t ht⟩
  ·rw [hget_set _ _ _ _ hkg]
   by_cases e : i = k
   ·subst e; simp only [if_true]
    intro q
    have := (h.old i hi).1
    omega
   ·simp only [if_neg e]; exact h.same i hi
  ·rw [hget_set _ _ _ _ hkg, hget_set _ _ _ _ hkg]
   by_cases e : i = k
   ·subst e
    rw [if_pos rfl, if_neg (Ne.symm hii)]
    have q1 := (h.own i' hi').1
    have q2 := (h.old i' hi').1
    exact ⟨fun q => by simp only at q; omega, fun q => by simp only at q; omega⟩
   ·rw [if_neg e]
    by_cases e' : i' = k
    ·subst e'; rw [if_pos rfl]
     have q1 := (h.own i hi).1
     exact ⟨fun q => by simp only at q; omega, (h.ne i i' hi hi' hii).2⟩
    ·rw [if_neg e']; exact h.ne i i' hi hi' hii
structure ApartOk2 (ls : List HS) (os : List (List Int)) : Prop where
 z : llget os 0 = []
 inn : ∀ k, k < ls.length → (hget ls k).j < os.length ∧ (hget ls k).off + (hget ls k).len ≤ (llget os (hget ls k).j).length ∧ (hget ls k).len ≤ 140737488355328
 ne : ∀ k k', k < ls.length → k' < ls.length → k ≠ k' → (hget ls k).j = (hget ls k').j → (hget ls k).j = 0
structure Marked2 (ls : List HS) (m : Nat → Int) (i t : Nat) (H : List (List Int)) : Prop where
 z : llget H 0 = []
 inn : ∀ k, k < ls.length → (hget ls k).j < H.length ∧ (hget ls k).off + (hget ls k).len ≤ (llget H (hget ls k).j).length
 done : ∀ k, k < ls.length → ∀ u, u < (hget ls k).len → (k < i ∨ (k = i ∧ u < t)) → lget (llget H (hget ls k).j) ((hget ls k).off + u) = m k
theorem marked2_step {ls os H : _} {m : Nat → Int} {i t : Nat} (hO : ApartOk2 ls os) (h : Marked2 ls m i t H) (hi : i < ls.length) (ht : t < (hget ls i).len) :
  Marked2 ls m i (t + 1) (llset H (hget ls i).j (lset (llget H (hget ls i).j) ((hget ls i).off + t) (m i))) := by
 obtain ⟨h1, h2⟩ := h.inn i hi
 have hj0 : (hget ls i).j ≠ 0 := fun q => by rw [q, h.z] at h2; simp at h2; omega
 have obj : ∀ q, llget (llset H (hget ls i).j (lset (llget H (hget ls i).j) ((hget ls i).off + t) (m i))) q = if q = (hget ls i).j then lset (llget H (hget ls i).j) ((hget ls i).off + t) (m i) else llget H q := fun q => llset_get _ _ _ _ h1
 refine ⟨by rw [obj, if_neg (Ne.symm hj0)]; exact h.z, fun k hk => ?_, fun k hk u hu hc => ?_⟩
 ·obtain ⟨p1, p2⟩ := h.inn k hk
  refine ⟨by simpa [llset] using p1, ?_⟩
  rw [obj]
  split
  ·rename_i e; rw [e] at p2; simpa [lset] using p2
  ·exact p2
 ·rw [obj]
  split
  ·rename_i e
   have hki : k = i := by
    refine Classical.byContradiction fun q => ?_
    exact hj0 (e ▸ hO.ne k i hk hi q e)
   subst hki
   rw [lset_get _ _ _ _ (by omega)]
   by_cases hut : u = t
   ·subst hut; rw [if_pos rfl]
   ·rw [if_neg (by omega)]
    exact h.done k hk u hu (by omega)
  ·rename_i e
   refine h.done k hk u hu ?_
   rcases hc with hc | ⟨rfl, hc⟩
   ·exact Or.inl hc
   ·exact absurd rfl e
theorem marked2_next {ls H : _} {m : Nat → Int} {i : Nat} (h : Marked2 ls m i (hget ls i).len H) : Marked2 ls m (i + 1) 0 H :=
 ⟨h.z, h.inn, fun k hk u hu hc => h.done k hk u hu (by
  rcases hc with hc | ⟨_, hc⟩
  ·by_cases e : k = i
   ·subst e; exact Or.inr ⟨rfl, hu⟩
   ·exact Or.inl (by omega)
  ·omega)⟩
theorem Grown2.congr {ls gs H : _} {m g : Nat → Int} {c c' : Nat → Nat} (h : Grown2 ls m g c gs H) (hc : ∀ k, k < ls.length → c k = c' k) : Grown2 ls m g c' gs H :=
 ⟨h.len, h.z, fun k hk => by rw [← hc k hk]; exact h.own k hk, h.old, h.same, h.ne⟩
theorem grown2_start {ls os gs H : _} {m : Nat → Int} (g : Nat → Int) (hO : ApartOk2 ls os) (h : Marked2 ls m ls.length 0 H) (hl : gs.length = ls.length) (hg : ∀ k, k < ls.length → hget gs k = hget ls k) : Grown2 ls m g (fun _ => 0) gs H := by
 refine ⟨hl, h.z, fun k hk => ?_, fun k hk => ?_, fun k hk _ => Or.inl (by rw [hg k hk]), fun k k' hk hk' hne => ?_⟩
 ·rw [hg k hk]
  exact ⟨(h.inn k hk).1, rfl, (h.inn k hk).2, fun t ht => by rw [if_pos ht]; exact h.done k hk t ht (Or.inl hk)⟩
 ·exact ⟨(h.inn k hk).1, (h.inn k hk).2, fun t ht => h.done k hk t ht (Or.inl hk)⟩
 ·rw [hg k hk, hg k' hk']
  exact ⟨fun q => hO.ne k k' hk hk' hne q, fun q => hO.ne k k' hk hk' hne q⟩
structure Holds (ls : List HS) (V : Nat → Nat → Int) (H : List (List Int)) : Prop where
 z : llget H 0 = []
 inn : ∀ k, k < ls.length → (hget ls k).j < H.length ∧ (hget ls k).off + (hget ls k).len ≤ (llget H (hget ls k).j).length
 val : ∀ k, k < ls.length → ∀ u, u < (hget ls k).len → lget (llget H (hget ls k).j) ((hget ls k).off + u) = V k u
theorem Holds.congr {ls H : _} {V V' : Nat → Nat → Int} (h : Holds ls V H) (e : ∀ k, k < ls.length → ∀ u, u < (hget ls k).len → V k u = V' k u) : Holds ls V' H :=
 ⟨h.z, h.inn, fun k hk u hu => (h.val k hk u hu).trans (e k hk u hu)⟩
theorem Marked2.holds {ls H : _} {m : Nat → Int} (h : Marked2 ls m ls.length 0 H) : Holds ls (fun k _ => m k) H := ⟨h.z, h.inn, fun k hk u hu => h.done k hk u hu (Or.inl hk)⟩
theorem Holds.con {ls H : _} {V : Nat → Nat → Int} (h : Holds ls V H) {k : Nat} (hk : k < ls.length) : hcon H (hget ls k) = tab (hget ls k).len (V k) := by
 obtain ⟨_, h2⟩ := h.inn k hk
 unfold hcon
 rw [eq_tab (l := lsub (llget H (hget ls k).j) (hget ls k).off (hget ls k).len) (lsub_len _ _ _ h2)]
 exact tab_ext fun u hu => by rw [lget_sub _ _ _ _ hu]; exact h.val k hk u hu
theorem Holds.store {ls os H : _} {V : Nat → Nat → Int} {i t : Nat} (x : Int) (hO : ApartOk2 ls os) (h : Holds ls V H) (hi : i < ls.length) (ht : t < (hget ls i).len) :
  Holds ls (fun k u => if k = i ∧ u = t then x else V k u) (llset H (hget ls i).j (lset (llget H (hget ls i).j) ((hget ls i).off + t) x)) := by
 obtain ⟨h1, h2⟩ := h.inn i hi
 have hj0 : (hget ls i).j ≠ 0 := fun q => by rw [q, h.z] at h2; simp at h2; omega
 have obj : ∀ q, llget (llset H (hget ls i).j (lset (llget H (hget ls i).j) ((hget ls i).off + t) x)) q = if q = (hget ls i).j then lset (llget H (hget ls i).j) ((hget ls i).off + t) x else llget H q := fun q => llset_get _ _ _ _ h1
 refine ⟨by rw [obj, if_neg (Ne.symm hj0)]; exact h.z, fun k hk => ?_, fun k hk u hu => ?_⟩
 ·obtain ⟨p1, p2⟩ := h.inn k hk
  refine ⟨by simpa [llset] using p1, ?_⟩
  rw [obj]
  split
  ·rename_i e; rw [e] at p2; simpa [lset] using p2
  ·exact p2
 ·rw [obj]
  split
  ·rename_i e
   have hki : k = i := by
    refine Classical.byContradiction fun q => ?_
    exact hj0 (e ▸ hO.ne k i hk hi q e)
   subst hki
   rw [lset_get _ _ _ _ (by omega)]
   by_cases hut : u = t
   ·subst hut; rw [if_pos rfl, if_pos ⟨rfl, rfl⟩]
   ·rw [if_neg (by omega), if_neg (by omega)]
    exact h.val k hk u hu
  ·rename_i e
   rw [if_neg (fun c => e (by rw [c.1]))]
   exact h.val k hk u hu
structure Tip (ls : List HS) (H : List (List Int)) (i : Nat) (d : HS) : Prop where
 j : d.j < H.length
 fit : d.off + d.len ≤ (llget H d.j).length
 own : (d.j = (hget ls i).j ∧ (hget ls i).off + (hget ls i).len ≤ d.off + d.len) ∨ ∀ k, k < ls.length → (hget ls k).j ≠ d.j
theorem Holds.grow {ls os H H' : _} {V : Nat → Nat → Int} {i j' off' : Nat} {d : HS} {v : List Int} (hO : ApartOk2 ls os) (h : Holds ls V H) (hi : i < ls.length) (hd : Tip ls H i d) (hv : v ≠ []) (hA : AppR H d.j d.off d.len v H' j' off') :
  Holds ls V H' ∧ Tip ls H' i ⟨j', off', d.len + v.length⟩ := by
 cases hA with
 | here hj0 =>
  have hj0 := hj0 hv
  have obj : ∀ q, llget (llset H d.j (lput (llget H d.j) (d.off + d.len) v)) q = if q = d.j then lput (llget H d.j) (d.off + d.len) v else llget H q := fun q => llset_get _ _ _ _ hd.j
  refine ⟨⟨by rw [obj, if_neg (Ne.symm hj0)]; exact h.z, fun k hk => ?_, fun k hk u hu => ?_⟩, ⟨by simpa [llset] using hd.j, ?_, ?_⟩⟩
  ·obtain ⟨p1, p2⟩ := h.inn k hk
   refine ⟨by simpa [llset] using p1, ?_⟩
   rw [obj]; split
   ·rename_i e; rw [lput_len2 _ _ _ hd.fit]; rw [e] at p2; omega
   ·exact p2
  ·rw [obj]; split
   ·rename_i e
    rcases hd.own with ⟨q1, q2⟩ | q
    ·have hki : k = i ∨ (hget ls k).j = 0 := by
      by_cases c : k = i
      ·exact Or.inl c
      ·exact Or.inr (hO.ne k i hk hi c (by rw [e, q1]))
     rcases hki with rfl | c
     ·rw [lget_lput _ _ _ _ hd.fit, if_neg (by omega), ← e]; exact h.val k hk u hu
     ·rw [e] at c; exact absurd c hj0
    ·exact absurd e (q k hk)
   ·exact h.val k hk u hu
  ·rw [obj, if_pos rfl, lput_len2 _ _ _ hd.fit]; simp only; omega
  ·rcases hd.own with ⟨q1, q2⟩ | q
   ·exact Or.inl ⟨q1, by simp only; omega⟩
   ·exact Or.inr q
 | new =>
  have obj : ∀ q, q < H.length → llget (H ++ [lsub (llget H d.j) d.off d.len ++ v]) q = llget H q := fun q hq => by rw [llget_app, if_pos hq]
  have hpos : 0 < H.length := by have := hd.j; omega
  refine ⟨⟨by rw [obj _ hpos]; exact h.z, fun k hk => ?_, fun k hk u hu => ?_⟩, ⟨by simp, ?_, Or.inr fun k hk e => ?_⟩⟩
  ·obtain ⟨p1, p2⟩ := h.inn k hk
   exact ⟨by simp; omega, by rw [obj _ p1]; exact p2⟩
  ·rw [obj _ (h.inn k hk).1]; exact h.val k hk u hu
  ·show 0 + (d.len + v.length) ≤ (llget (H ++ [lsub (llget H d.j) d.off d.len ++ v]) H.length).length
   rw [llget_app, if_neg (by omega), if_pos rfl, List.length_append, lsub_len _ _ _ hd.fit]; omega
  ·have q1 := (h.inn k hk).1; have q2 : (hget ls k).j = H.length := e; omega
theorem Grown2.agree {ls gs V H : _} {m g : Nat → Int} {c c' : Nat → Nat} (h : Grown2 ls m g c V H) (hl : gs.length = ls.length) (hg : ∀ k, k < ls.length → hget gs k = hget V k) (hc : ∀ k, k < ls.length → c k = c' k) : Grown2 ls m g c' gs H :=
 ⟨hl, h.z, fun k hk => by rw [hg k hk, ← hc k hk]; exact h.own k hk, h.old, fun k hk => by rw [hg k hk]; exact h.same k hk, fun k k' hk hk' => by rw [hg k hk, hg k' hk']; exact h.ne k k' hk hk'⟩
structure Same (ls : List HS) (os H : List (List Int)) : Prop where
 len : os.length ≤ H.length
 same : ∀ j, j < os.length → (∀ k, k < ls.length → (hget ls k).j ≠ j) → llget H j = llget os j
structure Frm (ls : List HS) (os : List (List Int)) (gs : List HS) (H : List (List Int)) : Prop where
 sm : Same ls os H
 src : ∀ k, k < ls.length → (hget gs k).j = (hget ls k).j ∨ os.length ≤ (hget gs k).j
structure GF (ls : List HS) (os : List (List Int)) (m g : Nat → Int) (c : Nat → Nat) (gs : List HS) (H : List (List Int)) : Prop extends Grown2 ls m g c gs H where
 fr : Frm ls os gs H
structure MF (ls : List HS) (os : List (List Int)) (m : Nat → Int) (i t : Nat) (H : List (List Int)) : Prop extends Marked2 ls m i t H where
 fr : Frm ls os ls H
theorem Frm.start (ls : List HS) (os : List (List Int)) : Frm ls os ls os := ⟨⟨Nat.le_refl _, fun _ _ _ => rfl⟩, fun _ _ => Or.inl rfl⟩
theorem Frm.agree {ls os gs gs' H : _} (h : Frm ls os gs H) (hg : ∀ k, k < ls.length → hget gs' k = hget gs k) : Frm ls os gs' H := ⟨h.sm, fun k hk => by rw [hg k hk]; exact h.src k hk⟩
theorem Same.store {ls os H : _} {i : Nat} {x : List Int} (h : Same ls os H) (hi : i < ls.length) (hj : (hget ls i).j < H.length) : Same ls os (llset H (hget ls i).j x) :=
 ⟨by simpa [llset] using h.len, fun j hj0 hne => by rw [llset_get _ _ _ _ hj, if_neg (Ne.symm (hne i hi))]; exact h.same j hj0 hne⟩
theorem Frm.step {ls os gs H H' : _} {k j' off' n : Nat} {v : List Int} (h : Frm ls os gs H) (hk : k < ls.length) (hkg : k < gs.length) (hj : (hget gs k).j < H.length) (hA : AppR H (hget gs k).j (hget gs k).off (hget gs k).len v H' j' off') :
  Frm ls os (hset gs k ⟨j', off', n⟩) H' := by
 cases hA with
 | here hj0 =>
  refine ⟨⟨by simpa [llset] using h.sm.len, fun j hj1 hne => ?_⟩, fun q hq => ?_⟩
  ·rw [llset_get _ _ _ _ hj, if_neg fun e => ?_]
   ·exact h.sm.same j hj1 hne
   ·rcases h.src k hk with c | c
    ·exact hne k hk (by rw [← c, e])
    ·omega
  ·rw [hget_set _ _ _ _ hkg]
   split
   ·rename_i e; subst e; exact h.src q hq
   ·exact h.src q hq
 | new =>
  refine ⟨⟨by have := h.sm.len; simp; omega, fun j hj1 hne => ?_⟩, fun q hq => ?_⟩
  ·have := h.sm.len
   rw [llget_app, if_pos (by omega)]; exact h.sm.same j hj1 hne
  ·rw [hget_set _ _ _ _ hkg]
   split
   ·right; exact h.sm.len
   ·exact h.src q hq
theorem gf_step {ls os gs H H' : _} {m g : Nat → Int} {c : Nat → Nat} {k j' off' r : Nat} (hr : 0 < r) (h : GF ls os m g c gs H) (hk : k < ls.length) (hA : AppR H (hget gs k).j (hget gs k).off (hget gs k).len (List.replicate r (g k)) H' j' off') :
  GF ls os m g (fun i => if i = k then c k + r else c i) (hset gs k ⟨j', off', (hget gs k).len + r⟩) H' :=
 ⟨grown2_step hr h.toGrown2 hk hA, h.fr.step hk (by rw [h.len]; exact hk) (h.own k hk).1 hA⟩
theorem GF.congr {ls os gs H : _} {m g : Nat → Int} {c c' : Nat → Nat} (h : GF ls os m g c gs H) (hc : ∀ k, k < ls.length → c k = c' k) : GF ls os m g c' gs H := ⟨h.toGrown2.congr hc, h.fr⟩
theorem GF.agree {ls os gs V H : _} {m g : Nat → Int} {c c' : Nat → Nat} (h : GF ls os m g c V H) (hl : gs.length = ls.length) (hg : ∀ k, k < ls.length → hget gs k = hget V k) (hc : ∀ k, k < ls.length → c k = c' k) : GF ls os m g c' gs H :=
 ⟨h.toGrown2.agree hl hg hc, h.fr.agree hg⟩
theorem gf_start {ls os gs H : _} {m : Nat → Int} (g : Nat → Int) (hO : ApartOk2 ls os) (h : MF ls os m ls.length 0 H) (hl : gs.length = ls.length) (hg : ∀ k, k < ls.length → hget gs k = hget ls k) : GF ls os m g (fun _ => 0) gs H :=
 ⟨grown2_start g hO h.toMarked2 hl hg, h.fr.agree hg⟩
theorem mf_step {ls os H : _} {m : Nat → Int} {i t : Nat} (hO : ApartOk2 ls os) (h : MF ls os m i t H) (hi : i < ls.length) (ht : t < (hget ls i).len) :
  MF ls os m i (t + 1) (llset H (hget ls i).j (lset (llget H (hget ls i).j) ((hget ls i).off + t) (m i))) :=
 ⟨marked2_step hO h.toMarked2 hi ht, ⟨h.fr.sm.store hi (h.inn i hi).1, h.fr.src⟩⟩
theorem mf_next {ls os H : _} {m : Nat → Int} {i : Nat} (h : MF ls os m i (hget ls i).len H) : MF ls os m (i + 1) 0 H := ⟨marked2_next h.toMarked2, h.fr⟩
theorem Same.con {ls os H : _} (h : Same ls os H) {d : HS} (hd : d.j < os.length) (hne : ∀ k, k < ls.length → (hget ls k).j ≠ d.j) : hcon H d = hcon os d := by
 unfold hcon; rw [h.same _ hd hne]
def AC.ren (π : Nat → Nat) : AC → AC
 | .ptr n b i => .ptr (π n) b i
 | .sl n b i l c => .sl (π n) b i l c
 | .clo f n b i => .clo f (π n) b i
 | .vec n => .vec (π n)
 | .vsl n z i l => .vsl (π n) z i l
 | .vcl n z i l => .vcl (π n) z i l
 | .vptr n z i b j => .vptr (π n) z i b j
 | .el n c i => .el (π n) c i
 | .esl n c i o l => .esl (π n) c i o l
 | .eptr n c i o => .eptr (π n) c i o
 | .map n => .map (π n)
 | a => a
def Seg.ren (π : Nat → Nat) : Seg → Seg
 | .cells cs => .cells (cs.map (AC.ren π))
 | s => s
def TV.ren (π : Nat → Nat) : TV → TV
 | .c a => .c (a.ren π)
 | .g s => .g (s.map (Seg.ren π))
def AV.ren (π : Nat → Nat) : AV → AV
 | .one a => .one (a.ren π)
 | .agg s => .agg (s.map (Seg.ren π))
 | .tup vs => .tup (vs.map (TV.ren π))
 | .undef => .undef
def Blk.ren (π : Nat → Nat) : Blk → Blk
 | .own T s => .own T (s.map (Seg.ren π))
 | .view s => .view (s.map (Seg.ren π))
 | b => b
structure HPi (π : Nat → Nat) : Prop where
 heap : ∀ n, isHeap n = true → π n = n
 not : ∀ n, isHeap n = false → isHeap (π n) = false
section
variable {π : Nat → Nat} {ρ : Rho} {w : World}
theorem CRep.ren (hp : HPi π) {a : AC} {v : Value} : CRep (fun n => ρ (π n)) a v ↔ CRep ρ (a.ren π) v := by
 cases a with
 | hs k j o l => have := hp.heap _ (isHeap_hname k); simp only [CRep, AC.ren, this]
 | hp k j i => have := hp.heap _ (isHeap_hname k); simp only [CRep, AC.ren, this]
 | _ => exact Iff.rfl
theorem flat_ren : ∀ (s : List Seg), flat (s.map (Seg.ren π)) = (flat s).map (AC.ren π)
 | [] => rfl
 | x :: r => by
  simp only [List.map_cons, flat, List.map_append, flat_ren r]
  congr 1
  cases x <;> simp [Seg.ren, Seg.flat, AC.ren]
theorem segsOk_ren : ∀ {s : List Seg}, segsOk (s.map (Seg.ren π)) ↔ segsOk s
 | [] => Iff.rfl
 | x :: r => by
  simp only [List.map_cons, segsOk, segsOk_ren (s := r)]
  cases x <;> exact Iff.rfl
theorem FRep.ren (hp : HPi π) {l : List AC} {c : List Value} : FRep (fun n => ρ (π n)) l c ↔ FRep ρ (l.map (AC.ren π)) c := by
 constructor
 ·intro h
  refine ⟨by simpa using h.1, fun j a v ha hv => ?_⟩
  simp only [List.getElem?_map, Option.map_eq_some_iff] at ha
  obtain ⟨b, hb, rfl⟩ := ha
  exact (CRep.ren hp).1 (h.2 j b v hb hv)
 ·intro h
  exact ⟨by simpa using h.1, fun j a v ha hv => (CRep.ren hp).2 (h.2 j (a.ren π) v (by simp [ha]) hv)⟩
theorem SRep.ren (hp : HPi π) {x : AV} {v : Value} : SRep (fun n => ρ (π n)) x v ↔ SRep ρ (x.ren π) v := by
 have gs : ∀ {s : List Seg} {v : Value}, (segsOk s ∧ ∃ cs : List Value, v = .agg cs.toArray ∧ FRep (fun n => ρ (π n)) (flat s) cs) ↔ (segsOk (s.map (Seg.ren π)) ∧ ∃ cs : List Value, v = .agg cs.toArray ∧ FRep ρ (flat (s.map (Seg.ren π))) cs) := by
  intro s v
  rw [segsOk_ren, flat_ren]
  exact and_congr Iff.rfl (exists_congr fun cs => and_congr Iff.rfl (FRep.ren hp))
 cases x with
 | one a => exact CRep.ren hp
 | agg s => exact gs
 | undef => exact Iff.rfl
 | tup vs =>
  have tv : ∀ {t : TV} {u : Value}, TRep (fun n => ρ (π n)) t u ↔ TRep ρ (t.ren π) u := by
   intro t u
   cases t with
   | c a => exact CRep.ren hp
   | g s => exact gs
  constructor
  ·rintro ⟨us, e, hl, h⟩
   refine ⟨us, e, by simpa using hl, fun j t u ht hu => ?_⟩
   simp only [List.getElem?_map, Option.map_eq_some_iff] at ht
   obtain ⟨t', ht', rfl⟩ := ht
   exact tv.1 (h j t' u ht' hu)
  ·rintro ⟨us, e, hl, h⟩
   exact ⟨us, e, by simpa using hl, fun j t u ht hu => tv.2 (h j (t.ren π) u (by simp [ht]) hu)⟩
theorem BlkRep.ren (hp : HPi π) {n : Nat} {b : Blk} : BlkRep (fun n => ρ (π n)) w n b ↔ BlkRep ρ w (π n) (b.ren π) := by
 have lk : ∀ {L : Loc} {cs : List Col}, Lnk (fun n => ρ (π n)) L cs ↔ Lnk ρ L cs := by
  intro L cs
  constructor
  ·exact fun h c k l hc i d hd => (CRep.ren hp).1 (h c k l hc i d hd)
  ·exact fun h c k l hc i d hd => (CRep.ren hp).2 (h c k l hc i d hd)
 cases b with
 | own T s =>
  simp only [BlkRep, Blk.ren, segsOk_ren, flat_ren]
  refine and_congr Iff.rfl (and_congr Iff.rfl (exists_congr fun c => exists_congr fun fz => and_congr Iff.rfl (and_congr (FRep.ren hp) Iff.rfl)))
 | view s =>
  simp only [BlkRep, Blk.ren, segsOk_ren, flat_ren]
  refine and_congr Iff.rfl ?_
  constructor
  ·intro h j a ha
   simp only [List.getElem?_map, Option.map_eq_some_iff] at ha
   obtain ⟨b, hb, rfl⟩ := ha
   obtain ⟨v, h1, h2⟩ := h j b hb
   exact ⟨v, h1, (CRep.ren hp).1 h2⟩
  ·intro h j a ha
   obtain ⟨v, h1, h2⟩ := h j (a.ren π) (by simp [ha])
   exact ⟨v, h1, (CRep.ren hp).2 h2⟩
 | vec cs => simp only [BlkRep, Blk.ren]; exact and_congr Iff.rfl (and_congr Iff.rfl lk)
 | rview cs => simp only [BlkRep, Blk.ren]; exact and_congr Iff.rfl lk
 | heap k os =>
  simp only [BlkRep, Blk.ren]
  refine and_congr ?_ Iff.rfl
  cases hh : isHeap n with
  | true => rw [hp.heap n hh, hh]
  | false => rw [hp.not n hh]
 | map kk m =>
  simp only [BlkRep, Blk.ren]
  refine exists_congr fun es => exists_congr fun clock => and_congr Iff.rfl (and_congr ?_ Iff.rfl)
  cases m with
  | ints k l => exact Iff.rfl
  | strs l => exact Iff.rfl
  | hss k l =>
   constructor
   ·exact fun h => ⟨h.len, fun i p e hp' he => ⟨(h.at_ i p e hp' he).1, (CRep.ren hp).1 (h.at_ i p e hp' he).2⟩⟩
   ·exact fun h => ⟨h.len, fun i p e hp' he => ⟨(h.at_ i p e hp' he).1, (CRep.ren hp).2 (h.at_ i p e hp' he).2⟩⟩
theorem Foot.ren {n k : Nat} {b : Blk} : Foot (fun n => ρ (π n)) n b k ↔ Foot ρ (π n) (b.ren π) k := by
 cases b with
 | view s =>
  simp only [Foot, Blk.ren, flat_ren]
  exact and_congr (not_congr (by simp)) Iff.rfl
 | _ => exact Iff.rfl
theorem Out.ren {n k : Nat} {b : Blk} : Out (fun n => ρ (π n)) n b k ↔ Out ρ (π n) (b.ren π) k := by
 cases b <;> exact Iff.rfl
theorem Inn.ren {n k : Nat} {b : Blk} : Inn (fun n => ρ (π n)) n b k ↔ Inn ρ (π n) (b.ren π) k := by
 cases b <;> exact Iff.rfl
end
inductive Under : Blk → Blk → Prop
 | same (b : Blk) : Under b b
 | rview (cs : List Col) : Under (.vec cs) (.rview cs)
 | view (T : TypeId) (s : List Seg) : Under (.own T s) (.view s)
theorem Under.rep {ρ : Rho} {w : World} {n : Nat} {c b : Blk} (h : Under c b) (hc : BlkRep ρ w n c) : BlkRep ρ w n b := by
 cases h with
 | same => exact hc
 | rview cs => exact ⟨hc.1, hc.2.2⟩
 | view T s => exact hc.cells
theorem Under.foot {ρ : Rho} {w : World} {n k : Nat} {c b : Blk} (h : Under c b) (hc : BlkRep ρ w n c) (hf : Foot ρ n b k) : Foot ρ n c k := by
 cases h with
 | same => exact hf
 | rview cs =>
  rcases hf with ⟨h1, h2⟩ | hf
  ·exact Or.inl ⟨by have := hc.1.cap; omega, h2⟩
  ·exact Or.inr hf
 | view T s => exact hf.2
theorem Under.out {ρ : Rho} {n k : Nat} {c b : Blk} (h : Under c b) (hf : Out ρ n b k) : Out ρ n c k := by
 cases h with
 | same => exact hf
 | rview cs => exact hf.elim
 | view T s => exact hf.elim
theorem Under.inn {ρ : Rho} {n k : Nat} {c b : Blk} (h : Under c b) (hf : Inn ρ n b k) : Inn ρ n c k := by
 cases h with
 | same => exact hf
 | rview cs => exact hf
 | view T s => exact hf.elim
def roB : Blk → Bool
 | .view _ => true
 | .rview _ => true
 | _ => false
structure Enter (π : Nat → Nat) (σ τ : Mem) : Prop where
 pi : HPi π
 glob : ∀ g, π (gname g) = gname g
 inj : ∀ n m b c, Mem.find τ n = some b → Mem.find τ m = some c → π n = π m → n = m
 sub : ∀ n b, Mem.find τ n = some b → 200000 ≤ n ∧ ∃ c, Mem.find σ (π n) = some c ∧ Under c (b.ren π)
 heap : ∀ n b, Mem.find τ n = some b → isHeap n = true → roB b = false
def soleB : Blk → Bool
 | .own _ _ => true
 | .map _ _ => true
 | .heap _ _ => true
 | .vec cs => cs.all fun c => match c with | .rows _ _ => false | _ => true
 | _ => false
theorem sole_inner {ρ : Rho} {L : Loc} {cs : List Col} (h : soleB (.vec cs) = true) (k : Nat) : ¬ Inner L cs k := by
 rintro ⟨c, kk, ll, i, l, a, hc, _⟩
 have := List.all_eq_true.1 h _ (List.mem_of_getElem? hc)
 simp at this
theorem sole_out {ρ : Rho} {n k : Nat} {b : Blk} (h : soleB b = true) (hf : Foot ρ n b k) : Out ρ n b k := by
 cases b with
 | own T s => exact hf
 | map kk m => exact hf
 | heap q os => exact hf
 | vec cs =>
  rcases hf with hf | hf
  ·exact hf
  ·exact absurd hf (sole_inner (ρ := ρ) h k)
 | view s => simp [soleB] at h
 | rview cs => simp [soleB] at h
theorem sole_inn {ρ : Rho} {n k : Nat} {b : Blk} (h : soleB b = true) : ¬ Inn ρ n b k := by
 intro hf
 cases b <;> simp only [Inn] at hf
 ·exact absurd hf (sole_inner (ρ := ρ) h k)
 ·simp [soleB] at h
def renew (π : Nat → Nat) (d : Nat) : Nat → List Nat → Nat → Nat
 | _, [], n => π n
 | i, m :: r, n => if n = m then d + 10000 * i else renew π d (i + 1) r n
def backn (d : Nat) : Nat → List Nat → Nat → Option Nat
 | _, [], _ => none
 | i, n :: r, m => if m = d + 10000 * i then some n else backn d (i + 1) r m
theorem renew_not {π : Nat → Nat} {d n : Nat} : ∀ {ns : List Nat} {i : Nat}, n ∉ ns → renew π d i ns n = π n
 | [], _, _ => rfl
 | m :: r, i, h => by
  simp only [List.mem_cons, not_or] at h
  simp only [renew, if_neg h.1]
  exact renew_not h.2
theorem renew_mem {π : Nat → Nat} {d n : Nat} : ∀ {ns : List Nat} {i : Nat}, n ∈ ns → ∃ j, i ≤ j ∧ j < i + ns.length ∧ renew π d i ns n = d + 10000 * j ∧ backn d i ns (d + 10000 * j) = some n
 | m :: r, i, h => by
  by_cases e : n = m
  ·subst e
   exact ⟨i, Nat.le_refl _, by simp, by simp [renew], by simp [backn]⟩
  ·have hr : n ∈ r := by
    rcases List.mem_cons.1 h with q | q
    ·exact absurd q e
    ·exact q
   obtain ⟨j, h1, h2, h3, h4⟩ := renew_mem (π := π) (d := d) (i := i + 1) hr
   refine ⟨j, by omega, by simp only [List.length_cons]; omega, by simp only [renew, if_neg e]; exact h3, ?_⟩
   simp only [backn]
   rw [if_neg (by omega)]; exact h4
theorem backn_none {d m : Nat} : ∀ {ns : List Nat} {i : Nat}, (∀ j, i ≤ j → j < i + ns.length → m ≠ d + 10000 * j) → backn d i ns m = none
 | [], _, _ => rfl
 | n :: r, i, h => by
  simp only [backn]
  rw [if_neg (h i (Nat.le_refl _) (by simp))]
  exact backn_none fun j h1 h2 => h j (by omega) (by simp only [List.length_cons]; omega)
def Known (π : Nat → Nat) (τ : Mem) (ns : List Nat) (n : Nat) : Prop :=
 n ∈ ns ∨ (isHeap n = true ∧ (Mem.find τ n).isSome = true) ∨ (isHeap n = false ∧ 200000 ≤ n ∧ ((Mem.find τ n).isSome = true ∨ π n = n))
def Leave (π : Nat → Nat) (d news : Nat) (σ τ : Mem) (K : AV → Mem → Prop) (av : AV) (σ2 : Mem) : Prop :=
 ∃ ns av0 σ', ns.length ≤ news ∧ (∀ n ∈ ns, n < 200000) ∧ (∀ n, av.refs n = true → Known π τ ns n) ∧
  (∀ m b', Mem.find σ' m = some b' →
   (∃ n b, Mem.find σ2 n = some b ∧ Known π τ ns n ∧ soleB b = true ∧ (∀ r, b.refs r = true → Known π τ ns r) ∧ m = renew π d 0 ns n ∧ b' = b.ren (renew π d 0 ns)) ∨
   (Mem.find σ m = some b' ∧ ∀ n c, Mem.find τ n = some c → π n = m → roB c = true)) ∧
  (∀ ρ v, SRep ρ (av.ren (renew π d 0 ns)) v → SRep ρ av0 v) ∧ K av0 σ'
section
variable {P : Program} {Γ : Gam} {D : Hints}
theorem Good.inl (hm : P.follows .mixedOrders = true) (hΓ : GoodG P Γ) {f : FuncId} {fn : Func} (hf : P.funcs[f]? = some fn) (hb : fn.body.isSome = true) {s : Spec} (hs : s.mods = true)
  (hsem : ∀ d args σ (K : AV → Mem → Prop), s.sem d args σ K → (∀ k, k < s.news → d + 10000 * k < 200000 ∧ memRefs (d + 10000 * k) σ = false) → ∃ π cargs τ, Enter π σ τ ∧ args = cargs.map (AV.ren π) ∧ ∃ n, callsx P Γ D fn n cargs τ (Leave π d s.news σ τ K)) : Good P f s := by
 refine ⟨fun d args σ K h ρ w vals hg hmem hsep hl hv hnew => ?_⟩
 obtain ⟨π, cargs, τ, hE, rfl, n, hc⟩ := hsem d args σ K h hnew
 have hp := hE.pi
 let ρc : Rho := fun n => ρ (π n)
 have hsub : ∀ {n b}, Mem.find τ n = some b → ∃ c, Mem.find σ (π n) = some c ∧ Under c (b.ren π) := fun h => (hE.sub _ _ h).2
 have hmemc : MemRep ρc τ w := fun n b hb => by
  obtain ⟨c, h1, h2⟩ := hsub hb
  exact (BlkRep.ren hp).2 (h2.rep (hmem _ _ h1))
 have outc : ∀ {n b k}, Mem.find τ n = some b → Out ρc n b k → ∃ c, Mem.find σ (π n) = some c ∧ Out ρ (π n) c k := fun hb hO => by
  obtain ⟨c, h1, h2⟩ := hsub hb
  exact ⟨c, h1, h2.out (Out.ren.1 hO)⟩
 have hsepc : Sep ρc τ := by
  refine ⟨fun n m b c k hn hm' hne hO hF => ?_, fun n b k hn hO hI => ?_⟩
  ·obtain ⟨b1, h1, h2⟩ := outc hn hO
   obtain ⟨c1, g1, g2⟩ := hsub hm'
   exact hsep.1 _ _ b1 c1 k h1 g1 (fun e => hne (hE.inj n m b c hn hm' e)) h2 (g2.foot (hmem _ _ g1) (Foot.ren.1 hF))
  ·obtain ⟨b1, h1, h2⟩ := hsub hn
   exact hsep.2 _ b1 k h1 (h2.out (Out.ren.1 hO)) (h2.inn (Inn.ren.1 hI))
 have hgc : Glob ρc := fun g => by show (ρ (π (gname g))).1 = g ∧ (ρ (π (gname g))).2 = 0; rw [hE.glob]; exact hg g
 refine (callsx_sound hm hΓ hf hb hc (ρ := ρc) (ex := fun k => ∃ n b, Mem.find τ n = some b ∧ Out ρc n b k) hgc (by simpa using hl) (fun j x v hx hu => (SRep.ren hp).2 (hv j (x.ren π) v (by simp [hx]) hu)) hmemc hsepc (fun n b k hn hO => Or.inr ⟨n, b, hn, hO⟩)).mono ?_
 rintro e w' ⟨v, av, σ2, ρ2, rfl, ⟨ns, av0, σ', hlen, hlow, hav, hσ, hup, hK⟩, hsr, hmem2, hsep2, hfix, hext, hown, hk⟩
 have hnn : ∀ j, j < ns.length → d + 10000 * j < 200000 ∧ memRefs (d + 10000 * j) σ = false := fun j hj => hnew j (by omega)
 generalize hρ' : (fun m => match backn d 0 ns m with
  | some n => ρ2 n
  | none => match isHeap m && (Mem.find τ m).isSome with
   | true => ρ2 m
   | false => ρ m : Rho) = ρ'
 have ρold : ∀ m, (∀ j, j < ns.length → m ≠ d + 10000 * j) → (isHeap m = false ∨ (Mem.find τ m).isSome = false) → ρ' m = ρ m := fun m h1 h2 => by
  rw [← hρ']
  simp only [backn_none (ns := ns) (i := 0) fun j _ hj => h1 j (by omega)]
  rcases h2 with h2 | h2 <;> simp [h2]
 have ρheap : ∀ m, isHeap m = true → (Mem.find τ m).isSome = true → ρ' m = ρ2 m := fun m h1 h2 => by
  rw [← hρ']
  have : backn d 0 ns m = none := backn_none (ns := ns) (i := 0) fun j _ hj => by
   have := isHeap_le h1
   have := (hnn j (by omega)).1
   omega
  simp [this, h1, h2]
 have σname : ∀ {m b}, Mem.find σ m = some b → ∀ j, j < ns.length → m ≠ d + 10000 * j := fun hb j hj => (memRefs_out (hnn j hj).2 hb).1
 have known : ∀ n, Known π τ ns n → ρ' (renew π d 0 ns n) = ρ2 n := by
  intro n hn
  by_cases hmn : n ∈ ns
  ·obtain ⟨j, _, h2, h3, h4⟩ := renew_mem (π := π) (d := d) (i := 0) hmn
   rw [h3, ← hρ']; simp [h4]
  ·rw [renew_not hmn]
   rcases hn with hn | ⟨h1, h2⟩ | ⟨h1, h2, h3⟩
   ·exact absurd hn hmn
   ·rw [hp.heap n h1]; exact ρheap n h1 h2
   ·rw [hfix n h2 h1]
    show ρ' (π n) = ρ (π n)
    refine ρold _ (fun j hj e => ?_) (Or.inl (hp.not n h1))
    rcases h3 with h3 | h3
    ·obtain ⟨b, hb⟩ := Option.isSome_iff_exists.1 h3
     obtain ⟨c, hc, _⟩ := hsub hb
     exact σname hc j hj e
    ·have := (hnn j hj).1
     omega
 have hpn : HPi (renew π d 0 ns) := by
  refine ⟨fun n hn => ?_, fun n hn => ?_⟩
  ·rw [renew_not fun q => by have := hlow n q; have := isHeap_le hn; omega]; exact hp.heap n hn
  ·by_cases hmn : n ∈ ns
   ·obtain ⟨j, _, h2, h3, _⟩ := renew_mem (π := π) (d := d) (i := 0) hmn
    rw [h3]
    have := (hnn j (by omega)).1
    exact isHeap_no (Or.inl (by omega))
   ·rw [renew_not hmn]; exact hp.not n hn
 have hext' : ∀ n, isHeap n = true → HExt (ρ n) (ρ' n) := fun n hn => by
  cases hq : (Mem.find τ n).isSome with
  | true =>
   rw [ρheap n hn hq]
   have := hext n hn
   have e : ρc n = ρ n := by show ρ (π n) = ρ n; rw [hp.heap n hn]
   rw [e] at this; exact this
  | false => rw [ρold n (fun j hj e => by have := isHeap_le hn; have := (hnn j hj).1; omega) (Or.inr hq)]; exact .refl _
 have hin : ∀ m b k, Mem.find σ m = some b → Foot ρ m b k → k < w.heap.size := fun m b k hb hk => in_range (hmem m b hb) hk
 have apart : ∀ {m b' k}, Mem.find σ m = some b' → (∀ n c, Mem.find τ n = some c → π n = m → roB c = true) → Foot ρ m b' k → ¬ ∃ n b, Mem.find τ n = some b ∧ Out ρc n b k := by
  rintro m b' k hm' hro hF ⟨n, b, hn, hO⟩
  obtain ⟨c, h1, h2⟩ := outc hn hO
  by_cases e : π n = m
  ·have := hro n b hn e
   cases b <;> simp [roB] at this <;> exact hO
  ·exact hsep.1 _ _ c b' k h1 hm' e h2 hF
 have old : ∀ {m b'}, Mem.find σ m = some b' → (∀ n c, Mem.find τ n = some c → π n = m → roB c = true) → ρ' m = ρ m ∧ BlkRep ρ' w' m b' := by
  intro m b' hm' hro
  have e : ρ' m = ρ m := by
   refine ρold m (σname hm') ?_
   cases hh : isHeap m with
   | false => exact Or.inl rfl
   | true =>
    right
    cases hq : Mem.find τ m with
    | none => rfl
    | some c =>
     have h1 := hro m c hq (hp.heap m hh)
     rw [hE.heap m c hq hh] at h1; cases h1
  refine ⟨e, ((hmem m b' hm').keeps fun k hk' => hk.block k (hin m b' k hm' hk') (apart hm' hro hk')).agree e fun r hr => ?_⟩
  cases hh : isHeap r with
  | true => exact hext' r hh
  | false =>
   refine .of_eq (ρold r (fun j hj e => ?_) (Or.inl hh))
   have := (memRefs_out (hnn j hj).2 hm').2
   rw [← e, hr] at this; cases this
 have new : ∀ {n b}, Mem.find σ2 n = some b → Known π τ ns n → (∀ r, b.refs r = true → Known π τ ns r) → BlkRep (fun n => ρ' (renew π d 0 ns n)) w' n b := fun hb hn hr =>
  (hmem2 _ _ hb).agree (known _ hn) fun r hr' => .of_eq (known r (hr r hr'))
 have hnO : ∀ {n b k}, Known π τ ns n → (Out (fun n => ρ' (renew π d 0 ns n)) n b k ↔ Out ρ2 n b k) := fun hn => Out.agree (known _ hn)
 have hnF : ∀ {n b k}, Known π τ ns n → (Foot (fun n => ρ' (renew π d 0 ns n)) n b k ↔ Foot ρ2 n b k) := fun hn => Foot.agree (known _ hn)
 refine ⟨v, av0, σ', ρ', rfl, hK, hup _ _ ((SRep.ren hpn).1 (hsr.agree fun r hr => .of_eq (known r (hav r hr)))), fun m b' hm' => ?_, ⟨fun m m' b' c' k hm' hm2 hne hO hF => ?_, fun m b' k hm' hO hI => ?_⟩, fun n hh hn => ?_, hext', fun m b' k hm' hO => ?_, ?_, fun q => by rw [hs] at q; cases q⟩
 ·rcases hσ m b' hm' with ⟨n, b, h1, h2, h3, h4, rfl, rfl⟩ | ⟨h1, h2⟩
  ·exact (BlkRep.ren hpn).1 (new h1 h2 h4)
  ·exact (old h1 h2).2
 ·rcases hσ m b' hm' with ⟨n, b, h1, h2, h3, h4, rfl, rfl⟩ | ⟨h1, h2⟩
  ·have hO2 := (hnO h2).1 (Out.ren.2 hO)
   rcases hσ m' c' hm2 with ⟨n', c, g1, g2, g3, g4, rfl, rfl⟩ | ⟨g1, g2⟩
   ·exact hsep2.1 n n' b c k h1 g1 (fun e => hne (by rw [e])) hO2 ((hnF g2).1 (Foot.ren.2 hF))
   ·have hF' : Foot ρ m' c' k := (Foot.agree (old g1 g2).1).1 hF
    rcases hown n b k h1 hO2 with q | q
    ·have := hin _ _ _ g1 hF'; omega
    ·exact apart g1 g2 hF' q
  ·have hO' : Out ρ m b' k := (Out.agree (old h1 h2).1).1 hO
   rcases hσ m' c' hm2 with ⟨n', c, g1, g2, g3, g4, rfl, rfl⟩ | ⟨g1, g2⟩
   ·have hF2 := sole_out g3 ((hnF g2).1 (Foot.ren.2 hF))
    rcases hown n' c k g1 hF2 with q | q
    ·have := hin _ _ _ h1 hO'.foot; omega
    ·exact apart h1 h2 hO'.foot q
   ·exact hsep.1 m m' b' c' k h1 g1 hne hO' ((Foot.agree (old g1 g2).1).1 hF)
 ·rcases hσ m b' hm' with ⟨n, b, h1, h2, h3, h4, rfl, rfl⟩ | ⟨h1, h2⟩
  ·exact sole_inn (ρ := fun n => ρ' (renew π d 0 ns n)) h3 (Inn.ren.2 hI)
  ·exact hsep.2 m b' k h1 ((Out.agree (old h1 h2).1).1 hO) ((Inn.agree (old h1 h2).1).1 hI)
 ·exact ρold n (fun j hj => hn j (by omega)) (Or.inl hh)
 ·rcases hσ m b' hm' with ⟨n, b, h1, h2, h3, h4, rfl, rfl⟩ | ⟨h1, h2⟩
  ·rcases hown n b k h1 ((hnO h2).1 (Out.ren.2 hO)) with q | ⟨n0, b0, q1, q2⟩
   ·exact Or.inr q
   ·obtain ⟨c, g1, g2⟩ := outc q1 q2
    exact Or.inl ⟨_, c, g1, g2⟩
  ·exact Or.inl ⟨m, b', h1, (Out.agree (old h1 h2).1).1 hO⟩
 ·exact ⟨hk.os, hk.tape, hk.output, hk.size, fun k hk' hx => hk.block k hk' fun ⟨n0, b0, q1, q2⟩ => by
   obtain ⟨c, g1, g2⟩ := outc q1 q2
   exact hx ⟨_, c, g1, g2⟩⟩
end
def hshift (n : Nat) (d : HS) : HS := if d.j = 0 then d else ⟨d.j - 1 + n, d.off, d.len⟩
def Col.shift (k : IntKind) (n : Nat) : Col → Col
 | .hss k' l => if k' = k then .hss k (l.map (hshift n)) else .hss k' l
 | c => c
def onlyH (k : IntKind) : List Col → Bool
 | [] => true
 | .rows _ _ :: _ => false
 | .hss k' _ :: r => k' == k && onlyH k r
 | _ :: r => onlyH k r
def Item.okH (k : IntKind) (σ : Mem) : Item → Prop
 | .vec m cs => Mem.find σ m = some (.vec cs) ∧ onlyH k cs = true
 | .nil ks => 0 < width ks
def Item.shift (k : IntKind) (n : Nat) : Item → List Col
 | .vec _ cs => cs.map (Col.shift k n)
 | .nil ks => (ks.map Kd.nil).map fun c => match c with
  | .rows k' [] => if k' = k then .hss k [] else c
  | c => c
def insAllC (d : Nat) : Nat → List (List Col) → Mem → Mem
 | _, [], σ => σ
 | k, it :: r, σ => insAllC d (k + 1) r (Mem.ins (d + 10000 * k) (.vec it) σ)
def ResH (d news : Nat) (σ : Mem) (k : IntKind) (os : List (List Int)) (K : AV → Mem → Prop) (av : AV) (σ' : Mem) : Prop :=
 ∃ its av' os', its.length ≤ news ∧ Mem.heap σ' k = some os' ∧ (∀ it ∈ its, it.okH k σ') ∧ (its.map Item.name).Pairwise (fun a b => a = none ∨ a ≠ b) ∧ ResV its d av av' ∧ K av' (insAllC d 0 (its.map (Item.shift k os.length)) (σ.put (hname k) (.heap k (os ++ os'.tail))))
def Loc.join (L M : Loc) : Loc := { L with el := fun c i => if i < L.len then L.el c i else if c = 1 ∧ i = 0 then ⟨none, L.n + (M.n - 1), 0⟩ else if c = 0 ∧ L.n ≤ i then M.el 0 (i - L.n + 1) else L.el c i }
theorem join_n {L M : Loc} (h : L.len = 0) : (L.join M).n = L.n + (M.n - 1) := by
 show (if 0 < L.len then L.el 1 0 else if (1 : Nat) = 1 ∧ 0 = 0 then (⟨none, L.n + (M.n - 1), 0⟩ : Elt) else _).len = _
 rw [if_neg (by omega), if_pos ⟨rfl, rfl⟩]
theorem join_old {L M : Loc} (h : L.len = 0) {i : Nat} (hi : i < L.n) : (L.join M).el 0 i = L.el 0 i := by
 show (if i < L.len then L.el 0 i else if (0 : Nat) = 1 ∧ i = 0 then _ else if (0 : Nat) = 0 ∧ L.n ≤ i then _ else L.el 0 i) = _
 rw [if_neg (by omega), if_neg (by omega), if_neg (by omega)]
theorem join_new {L M : Loc} (h : L.len = 0) {i : Nat} (hi : L.n ≤ i) : (L.join M).el 0 i = M.el 0 (i - L.n + 1) := by
 show (if i < L.len then L.el 0 i else if (0 : Nat) = 1 ∧ i = 0 then _ else if (0 : Nat) = 0 ∧ L.n ≤ i then M.el 0 (i - L.n + 1) else L.el 0 i) = _
 rw [if_neg (by omega), if_neg (by omega), if_pos ⟨rfl, hi⟩]
theorem join_ext {L M : Loc} (h : L.len = 0) : HExt L (L.join M) :=
 ⟨rfl, rfl, rfl, rfl, rfl, fun c i hi => by omega, by rw [join_n h]; omega, fun j hj => by rw [join_old h hj]; exact ⟨rfl, rfl, Nat.le_refl _⟩⟩
theorem join_heap {w : World} {L M : Loc} {k : IntKind} {os ps : List (List Int)} (h : HeapRep w L k os) (g : HeapRep w M k ps) (ha : ∀ q, HFoot L q → ¬ HFoot M q) : HeapRep w (L.join M) k (os ++ ps.tail) := by
 have h0 := h.len0
 have hn := h.n
 have gn := g.n
 have gp := g.pos
 have hp := h.pos
 obtain ⟨p, ps', rfl⟩ : ∃ p ps', ps = p :: ps' := by
  cases ps with
  | nil => simp at gp
  | cons p ps' => exact ⟨p, ps', rfl⟩
 simp only [List.length_cons] at gn
 refine ⟨h0, by rw [join_n h0, hn, gn]; simp, by simp; omega, by rw [join_old h0 (by omega)]; exact h.zero, fun j x hj => ?_, fun i j hi hj hij hci hcj => ?_⟩
 ·by_cases hjn : j < L.n
  ·rw [join_old h0 hjn]
   rw [List.getElem?_append_left (by omega)] at hj
   exact h.obj j x hj
  ·rw [join_new h0 (by omega)]
   rw [List.getElem?_append_right (by omega)] at hj
   refine g.obj _ x ?_
   rw [show j - L.n + 1 = (j - os.length) + 1 by omega]
   simpa using hj
 ·simp only [List.length_append, List.tail_cons] at hi hj
  have old : ∀ i, i < L.n → (L.el 0 i).cap ≠ 0 → HFoot L (L.el 0 i).loc.1 := fun i hi hc => ⟨i, hi, hc, rfl⟩
  have new : ∀ i, L.n ≤ i → i < os.length + ps'.length → (M.el 0 (i - L.n + 1)).cap ≠ 0 → HFoot M (M.el 0 (i - L.n + 1)).loc.1 := fun i hi hlt hc => ⟨i - L.n + 1, by omega, hc, rfl⟩
  by_cases hil : i < L.n
  ·rw [join_old h0 hil] at hci ⊢
   by_cases hjl : j < L.n
   ·rw [join_old h0 hjl] at hcj ⊢
    exact h.apart i j (by omega) (by omega) hij hci hcj
   ·rw [join_new h0 (by omega)] at hcj ⊢
    intro q
    have := old i hil hci
    rw [q] at this
    exact ha _ this (new j (by omega) hj hcj)
  ·rw [join_new h0 (by omega)] at hci ⊢
   by_cases hjl : j < L.n
   ·rw [join_old h0 hjl] at hcj ⊢
    intro q
    have := old j hjl hcj
    rw [← q] at this
    exact ha _ this (new i (by omega) hi hci)
   ·rw [join_new h0 (by omega)] at hcj ⊢
    exact g.apart _ _ (by simp only [List.length_cons]; omega) (by simp only [List.length_cons]; omega) (by omega) hci hcj
theorem hfoot_join {L M : Loc} {q : Nat} (h : L.len = 0) (hq : HFoot (L.join M) q) : HFoot L q ∨ HFoot M q := by
 obtain ⟨j, h1, h2, rfl⟩ := hq
 rw [join_n h] at h1
 by_cases hj : j < L.n
 ·rw [join_old h hj] at h2 ⊢; exact Or.inl ⟨j, hj, h2, rfl⟩
 ·rw [join_new h (by omega)] at h2 ⊢; exact Or.inr ⟨_, by omega, h2, rfl⟩
theorem hs_join {ρ ρ' : Rho} {L M : Loc} {k : IntKind} {d : HS} {v : Value} (h0 : L.len = 0) (hz : (L.el 0 0).cap = 0) (hp : 0 < L.n) (hzM : (M.el 0 0).cap = 0) (h : CRep ρ (.hs k d.j d.off d.len) v) (e : ρ (hname k) = M) (e' : ρ' (hname k) = L.join M) :
  CRep ρ' (.hs k (hshift L.n d).j (hshift L.n d).off (hshift L.n d).len) v := by
 obtain ⟨A, cap, rfl, h2, h3, hj, h4, h6, h5⟩ := h
 rw [e] at h3 hj h4 h6 h5
 unfold hshift
 by_cases hd : d.j = 0
 ·rw [if_pos hd]
  rw [hd, hzM] at h6
  have hc : cap = 0 := by omega
  have ho : d.off = 0 := by omega
  have hl : d.len = 0 := by omega
  refine ⟨A, cap, rfl, h2, by omega, by rw [e', hd, join_n h0]; omega, Or.inl hc, ?_, ?_⟩
  ·rw [e', hd, join_old h0 hp, hz]; omega
  ·rw [e', hd, join_old h0 hp]; exact fun q => absurd hz q
 ·rw [if_neg hd]
  have hi : L.n ≤ d.j - 1 + L.n := by omega
  have hb : d.j - 1 + L.n - L.n + 1 = d.j := by omega
  refine ⟨A, cap, rfl, h2, ?_, ?_, ?_, ?_, ?_⟩
  ·rw [e', join_new h0 hi, hb]; exact h3
  ·rw [e', join_n h0]; show d.j - 1 + L.n < _; omega
  ·rw [e', join_new h0 hi, hb]; exact h4
  ·rw [e', join_new h0 hi, hb]; exact h6
  ·rw [e', join_new h0 hi, hb]; exact h5
theorem shift_kds (k : IntKind) (n : Nat) (cs : List Col) : kdsOf (cs.map (Col.shift k n)) = kdsOf cs := by
 induction cs with
 | nil => rfl
 | cons c r ih =>
  simp only [kdsOf, List.map_cons, List.cons.injEq] at ih ⊢
  refine ⟨?_, ih⟩
  cases c <;> simp only [Col.shift] <;> try rfl
  split
  ·rename_i e; subst e; rfl
  ·rfl
theorem shift_val (k : IntKind) (n : Nat) (L : Loc) (c : Col) (a i j : Nat) : colVal L a (c.shift k n) i j = colVal L a c i j := by
 cases c <;> simp only [Col.shift] <;> try rfl
 split <;> rfl
theorem shift_row (k : IntKind) (n : Nat) (L : Loc) : ∀ (cs : List Col) (c i t : Nat), rowVal L (cs.map (Col.shift k n)) c i t = rowVal L cs c i t
 | [], _, _, _ => rfl
 | c :: r, a, i, t => by
  have e : (c.shift k n).kd = c.kd := by
   have := shift_kds k n [c]
   simpa [kdsOf] using this
  simp only [List.map_cons, rowVal, e, shift_val, shift_row k n L r]
theorem onlyH_get {k : IntKind} : ∀ {cs : List Col}, onlyH k cs = true → ∀ (c : Nat) x, cs[c]? = some x → (∀ k' ll, x ≠ .rows k' ll) ∧ ∀ k' l, x = .hss k' l → k' = k
 | [], _, c, x, h => by simp at h
 | y :: r, h, c, x, hx => by
  cases c with
  | zero =>
   simp at hx; subst hx
   cases y <;> simp_all [onlyH]
  | succ c =>
   refine onlyH_get (cs := r) ?_ c x (by simpa using hx)
   cases y <;> simp_all [onlyH]
theorem shift_rep {w : World} {L : Loc} {k : IntKind} {n : Nat} {cs : List Col} (ho : onlyH k cs = true) (h : VRep w L cs) : VRep w L (cs.map (Col.shift k n)) := by
 have hw : cwidth (cs.map (Col.shift k n)) = cwidth cs := by simp only [cwidth, shift_kds]
 refine ⟨by simpa using h.ne, by rw [hw]; exact h.wid, fun col hcol => ?_, h.cap, h.adr, fun i hi t ht => ?_, fun c kk ll hc i l hl => ?_⟩
 ·obtain ⟨c, hc, rfl⟩ := List.mem_map.1 hcol
  have := h.ok c hc
  cases c <;> simp only [Col.shift] <;> try exact this
  split
  ·simpa [Col.ok] using this
  ·exact this
 ·rw [hw] at ht ⊢
  rw [shift_row]; exact h.cells i hi t ht
 ·simp only [List.getElem?_map, Option.map_eq_some_iff] at hc
  obtain ⟨x, hx, he⟩ := hc
  have := (onlyH_get ho c x hx).1
  cases x <;> simp only [Col.shift] at he <;> first | (cases he; exact absurd rfl (this kk ll)) | (cases he) | skip
  split at he <;> cases he
structure ItemIn (ρ1 : Rho) (ρ : Rho) (σ : Mem) (n0 : Nat) (w : World) (it : Item) (cols : List Col) (L : Loc) : Prop where
 rep : VRep w L cols
 write : Writable w L (cwidth cols)
 inner : ∀ q, ¬ Inner L cols q
 refs : ∀ m, cols.any (Col.refs m) = true → isHeap m = true
 lnk : Lnk ρ1 L cols
 val : ∀ v, CRep ρ it.ac v → v = .slice L.a L.len L.cap
 own : L.cap ≠ 0 → n0 ≤ L.1 ∧ ∃ m b, it.name = some m ∧ Mem.find σ m = some b ∧ Out ρ m b L.1
theorem insAllC_sound {E : Env} {a : Act} {w : World} {ρ1 ρi : Rho} {σi : Mem} {n0 d : Nat} (f : Item → List Col) (Ls : Nat → Loc) : ∀ {its : List Item} {k : Nat} {ρ : Rho} {σ : Mem}, Rep E ρ [] σ a w → (∀ n, isHeap n = true → ρ n = ρ1 n) → (∀ i it, its[i]? = some it → ItemIn ρ1 ρi σi n0 w it (f it) (Ls (k + i))) → Sep ρi σi → E.w0.heap.size ≤ n0 →
  (its.map Item.name).Pairwise (fun a b => a = none ∨ a ≠ b) → (∀ i, i < its.length → freshB (d + 10000 * (k + i)) [] σ = true) → (∀ m b q, Mem.find σ m = some b → Foot ρ m b q → ∀ (i : Nat) it, its[i]? = some it → (Ls (k + i)).cap ≠ 0 → q ≠ (Ls (k + i)).1) →
  ∃ ρ', Rep E ρ' [] (insAllC d k (its.map f) σ) a w ∧ (∀ n, (∀ i, i < its.length → n ≠ d + 10000 * (k + i)) → ρ' n = ρ n) ∧ (∀ i, i < its.length → ρ' (d + 10000 * (k + i)) = Ls (k + i)) ∧ ∀ m b, Mem.find σ m = some b → Mem.find (insAllC d k (its.map f) σ) m = some b
 | [], k, ρ, σ, h, _, _, _, _, _, _, _ => ⟨ρ, h, fun _ _ => rfl, fun i hi => absurd hi (Nat.not_lt_zero _), fun _ _ q => q⟩
 | it :: its, k, ρ, σ, h, h1, hat, hs, hn0, hpw, hfr, hdis => by
  have h0 := hat 0 it rfl
  rw [Nat.add_zero] at h0
  have hd := hfr 0 (by simp)
  rw [Nat.add_zero] at hd
  have hdis0 := fun m b q hb hf => hdis m b q hb hf 0 it rfl
  obtain ⟨d1, _, d3⟩ := freshB_parts hd
  have hup : ∀ n, isHeap n = true → upd ρ (d + 10000 * k) (Ls k) n = ρ1 n := fun n hn => by
   rw [upd_ne (by have := isHeap_le hn; omega)]; exact h1 n hn
  have step := (add_sound (L := Ls k) (b := .vec (f it)) h hd h.keep (fun _ _ _ _ _ => rfl) ⟨by rw [upd_eq]; exact h0.rep, by rw [upd_eq]; exact h0.write, by rw [upd_eq]; exact h0.lnk.agree fun m hm => .of_eq (hup m (h0.refs m hm))⟩ (fun q hq => by
   simp only [Out, upd_eq] at hq
   obtain ⟨hc, rfl⟩ := hq
   exact ⟨Or.inl (Nat.le_trans hn0 (h0.own hc).1), fun m c hm hF => hdis0 m c _ hm hF (by rw [Nat.add_zero]; exact hc) (by rw [Nat.add_zero]), fun hI => by simp only [Inn, upd_eq] at hI; exact h0.inner _ hI⟩) (fun q hq => by
   simp only [Foot, upd_eq] at hq
   rcases hq with ⟨hc, rfl⟩ | hq
   ·exact fun m c hm hO => hdis0 m c _ hm hO.foot (by rw [Nat.add_zero]; exact hc) (by rw [Nat.add_zero])
   ·exact absurd hq (h0.inner _))).find_eq (find_ins d3)
  obtain ⟨q1, q2⟩ := List.pairwise_cons.1 hpw
  obtain ⟨ρ', r1, r2, r3, r4⟩ := insAllC_sound (ρ1 := ρ1) (ρi := ρi) (σi := σi) (n0 := n0) (d := d) f Ls (its := its) (k := k + 1) step hup (fun i it' hi => by have := hat (i + 1) it' (by simpa using hi); rw [show k + 1 + i = k + (i + 1) by omega]; exact this) hs hn0 q2 (fun i hi => by
   have := hfr (i + 1) (by simp only [List.length_cons]; omega)
   obtain ⟨f1, f2, f3⟩ := freshB_parts this
   rw [show k + 1 + i = k + (i + 1) by omega]
   simp only [freshB, f2, Bool.and_eq_true, decide_eq_true_eq, Bool.not_eq_true', and_true]
   refine ⟨f1, ?_⟩
   have e : ∀ (σ : Mem) (dd : Nat) (b : Blk) (x : Nat), memRefs x (Mem.ins dd b σ) = (dd == x || b.refs x || memRefs x σ) := by
    intro σ dd b x
    induction σ with
    | nil => simp [Mem.ins, memRefs]
    | cons p r ih =>
     obtain ⟨m, y⟩ := p
     simp only [Mem.ins]
     split
     ·simp only [memRefs, List.any_cons] at ih ⊢
      rw [ih]
      cases (m == x || y.refs x) <;> cases (dd == x || b.refs x) <;> simp
     ·simp [memRefs]
   rw [e, f3]
   have e2 : Blk.refs (d + 10000 * (k + (i + 1))) (.vec (f it)) = false := by
    cases hq : Blk.refs (d + 10000 * (k + (i + 1))) (.vec (f it)) with
    | false => rfl
    | true => have := isHeap_le (h0.refs _ hq); omega
   rw [e2]
   simp only [Bool.or_false, beq_eq_false_iff_ne]
   omega) (fun m b q hb hf i it' hi hc => by
   rw [show k + 1 + i = k + (i + 1) by omega] at hc ⊢
   rw [find_ins d3] at hb
   simp only [Mem.find] at hb
   split at hb
   ·rename_i e
    cases hb
    subst e
    simp only [Foot, upd_eq] at hf
    rcases hf with ⟨hc0, rfl⟩ | hf
    ·intro eq
     have hi' := hat (i + 1) it' (by simpa using hi)
     obtain ⟨_, m1, b1, n1, f1, o1⟩ := h0.own hc0
     obtain ⟨_, m2, b2, n2, f2, o2⟩ := hi'.own hc
     have hne : m1 ≠ m2 := fun e => by
      have := q1 it'.name (List.mem_map.2 ⟨it', List.mem_of_getElem? hi, rfl⟩)
      rw [n1, n2, e] at this
      rcases this with q | q
      ·cases q
      ·exact q rfl
     rw [← eq] at o2
     exact hs.1 m1 m2 b1 b2 _ f1 f2 hne o1 o2.foot
    ·exact absurd hf (h0.inner _)
   ·rename_i hne
    have hf' : Foot ρ m b q := (Foot.agree (upd_ne (fun e => hne e.symm))).1 hf
    exact hdis m b q hb hf' (i + 1) it' (by simpa using hi) hc)
  refine ⟨ρ', r1, fun n hn => ?_, fun i hi => ?_, fun m b hb => r4 m b (ins_old hd m b hb)⟩
  ·rw [r2 n (fun i hi => by have := hn (i + 1) (by simp only [List.length_cons]; omega); rw [show k + 1 + i = k + (i + 1) by omega]; exact this)]
   exact upd_ne (by have := hn 0 (by simp); rw [Nat.add_zero] at this; exact this)
  ·cases i with
   | zero =>
    rw [Nat.add_zero, r2 _ (fun i hi => by omega)]
    exact upd_eq _ _ _
   | succ i =>
    have := r3 i (by simp only [List.length_cons] at hi; omega)
    rw [show k + 1 + i = k + (i + 1) by omega] at this
    exact this
theorem memRefs_put {σ : Mem} {n d : Nat} {b b' : Blk} (h : memRefs d σ = false) (hb : b'.refs d = false) : memRefs d (σ.put n b') = false := by
 induction σ with
 | nil => rfl
 | cons p r ih =>
  obtain ⟨m, x⟩ := p
  simp only [memRefs, List.any_cons, Bool.or_eq_false_iff] at h ih ⊢
  simp only [Mem.put]
  split
  ·simp only [List.any_cons, Bool.or_eq_false_iff]; exact ⟨⟨h.1.1, hb⟩, h.2⟩
  ·simp only [List.any_cons, Bool.or_eq_false_iff]; exact ⟨h.1, ih h.2⟩
section
variable {P : Program} {Γ : Gam} {D : Hints}
theorem Good.priv (hm : P.follows .mixedOrders = true) (hΓ : GoodG P Γ) {f : FuncId} {fn : Func} (hf : P.funcs[f]? = some fn) (hb : fn.body.isSome = true) {s : Spec} (hs : s.mods = true)
  (hsem : ∀ d args σ (K : AV → Mem → Prop), s.sem d args σ K → ∃ k os cargs τ τ', Mem.heap σ k = some os ∧ Canon σ 0 args cargs τ ∧ memRefs (hname k) τ = false ∧ (∀ x ∈ cargs, x.refs (hname k) = false) ∧ args.length ≤ 1000 ∧ (∀ n, Mem.find τ' n = Mem.find ((hname k, .heap k [[]]) :: τ) n) ∧ ∃ n, callsx P Γ D fn n cargs τ' (ResH d s.news σ k os K)) : Good P f s := by
 refine ⟨fun d args σ K h ρ w vals hg hmem hsep hl hv hnew => ?_⟩
 obtain ⟨k, os, cargs, τ, τ', ho, hcan, hτr, hcr, hlen, hτ, n, hc⟩ := hsem d args σ K h
 obtain ⟨h1, Ls, h2⟩ := canon_sound hmem hsep hcan vals.toList (by simpa using hl) (fun i x v hx hu => hv i x v hx (by simpa using hu))
 generalize hρ0 : rhoC ρ (fun n => Ls (n % 1000) (n / 1000)) = ρ0
 have hρc : ∀ i f, 0 ≤ i → i < 0 + args.length → f < 100 → ρ0 (200000 + (i + 1000 * f)) = Ls i f := fun i f _ hi hf => by
  rw [← hρ0, rhoC_arg (by omega)]
  show Ls ((i + 1000 * f) % 1000) ((i + 1000 * f) / 1000) = Ls i f
  rw [show (i + 1000 * f) % 1000 = i by omega, show (i + 1000 * f) / 1000 = f by omega]
 have hgg : ∀ g, ρ0 (gname g) = ρ (gname g) := fun g => by rw [← hρ0]; exact rhoC_glob
 obtain ⟨g1, g2⟩ := h2 ρ0 hρc hgg (fun n hn => by rw [← hρ0]; exact rhoC_heap hn)
 have hhp := isHeap_hname k
 have hble := isHeap_le hhp
 generalize hρ1 : upd ρ0 (hname k) heap0 = ρc
 have hck : ρc (hname k) = heap0 := by rw [← hρ1]; exact upd_eq _ _ _
 have hcn : ∀ n, n ≠ hname k → ρc n = ρ0 n := fun n hn => by rw [← hρ1]; exact upd_ne hn
 have hgc : Glob ρc := fun g => by rw [hcn _ (by simp only [gname]; omega), hgg]; exact hg g
 have unf : ∀ {m b}, Mem.find τ' m = some b → (m = hname k ∧ b = .heap k [[]]) ∨ (m ≠ hname k ∧ Mem.find τ m = some b) := by
  intro m b hb
  rw [hτ] at hb
  simp only [Mem.find] at hb
  split at hb
  ·rename_i e; cases hb; exact Or.inl ⟨e.symm, rfl⟩
  ·rename_i e; exact Or.inr ⟨Ne.symm e, hb⟩
 have hno := canon_views hcan ρc
 have hout : ∀ m b q, Mem.find τ' m = some b → ¬ Out ρc m b q := by
  intro m b q hb hO
  rcases unf hb with ⟨rfl, rfl⟩ | ⟨_, hb⟩
  ·obtain ⟨j, h1, h2, _⟩ := hO
   rw [hck] at h1 h2
   exact h2 rfl
  ·exact hno m b q hb hO
 have hmemc : MemRep ρc τ' w := by
  intro m b hb
  rcases unf hb with ⟨rfl, rfl⟩ | ⟨hne, hb⟩
  ·exact ⟨hhp, by rw [hck]; exact heap0_rep w k⟩
  ·refine (g2 m b hb).agree (hcn m hne) fun x hx => .of_eq (hcn x fun e => ?_)
   subst e
   have := (memRefs_out hτr hb).2
   rw [this] at hx; cases hx
 have hsepc : Sep ρc τ' := ⟨fun n m b c k hn _ _ hO => absurd hO (hout n b k hn), fun n b k hn hO => absurd hO (hout n b k hn)⟩
 refine (callsx_sound hm hΓ hf hb hc (ex := fun _ => False) hgc (by simpa using h1) (fun i y v hy hu => (g1 i y v hy (by simpa using hu)).agree fun x hx => .of_eq (hcn x fun e => by
  subst e
  rw [hcr y (List.mem_of_getElem? hy)] at hx; cases hx)) hmemc hsepc (fun n b k hn hO => absurd hO (hout n b k hn))).mono ?_
 rintro e w' ⟨v, av', σ'', ρ'', rfl, ⟨its, av, os', hlen', hos', hok, hpw, hres, hK⟩, hsr, hmem'', hsep'', _, _, hown'', hk⟩
 have hsame : ∀ i, i < w.heap.size → w'.heap[i]? = w.heap[i]? := fun i hi => hk.block i hi (fun q => q)
 have hk' : Keeps (OwnAt ρ σ) w w' := ⟨hk.os, hk.tape, hk.output, hk.size, fun k hk' _ => hsame k hk'⟩
 let E : Env := ⟨w, ρ, OwnAt ρ σ, hg⟩
 let a : Act := { tmps := #[], defers := [] }
 have hmem' : MemRep ρ σ w' := hmem.keeps (fun n b k hb hk => hsame _ (in_range (hmem n b hb) hk))
 have hR : Rep E ρ [] σ a w' := ⟨⟨rfl, fun t v ht => by simp [a] at ht⟩, rfl, hmem', hsep, fun _ _ _ => rfl, fun _ _ => .refl _, fun n b k hn hO => Or.inr ⟨n, b, hn, hO⟩, hk'⟩
 have hfd := heap_find ho
 have hfd'' := heap_find hos'
 obtain ⟨_, hH⟩ := hmem' _ _ hfd
 obtain ⟨_, hP⟩ := hmem'' _ _ hfd''
 have hnew' : ∀ m b q, Mem.find σ'' m = some b → Out ρ'' m b q → w.heap.size ≤ q := fun m b q hm hO => by
  rcases hown'' m b q hm hO with q | q
  ·exact q
  ·exact q.elim
 have hPn : ∀ q, HFoot (ρ'' (hname k)) q → w.heap.size ≤ q := fun q hq => hnew' _ _ q hfd'' hq
 have hfootlt : ∀ m c q, Mem.find σ m = some c → Foot ρ m c q → q < w.heap.size := fun m c q hm hF => in_range (hmem m c hm) hF
 have h0 := hH.len0
 have grown := heap_grow (w' := w') (L' := (ρ (hname k)).join (ρ'' (hname k))) hR hhp hfd (join_ext h0) (join_heap hH hP fun q hq hq' => by
   have := hfootlt _ _ q hfd hq
   have := hPn q hq'
   omega) hk' (fun _ _ _ _ _ _ => rfl) (fun q hq => by
  rcases hfoot_join h0 hq with h | h
  ·exact Or.inl h
  ·have hge := hPn q h
   exact Or.inr ⟨Or.inl hge, fun m c hm _ hF => by have := hfootlt m c q hm hF; omega⟩)
 generalize hρg : upd ρ (hname k) ((ρ (hname k)).join (ρ'' (hname k))) = ρg at grown
 have hgk : ρg (hname k) = (ρ (hname k)).join (ρ'' (hname k)) := by rw [← hρg]; exact upd_eq _ _ _
 have hgn : ∀ n, n ≠ hname k → ρg n = ρ n := fun n hn => by rw [← hρg]; exact upd_ne hn
 have hn1 : (ρ (hname k)).n = os.length := hH.n
 have hat : ∀ it ∈ its, ∃ L, ItemIn ρg ρ'' σ'' w.heap.size w' it (it.shift k os.length) L := fun it hi => by
  have hok := hok it hi
  cases it with
  | vec m cs =>
   obtain ⟨q1, q2⟩ := hok
   obtain ⟨p1, p2, p3⟩ := hmem'' m _ q1
   have hw : cwidth (cs.map (Col.shift k os.length)) = cwidth cs := by simp only [cwidth, shift_kds]
   refine ⟨ρ'' m, shift_rep q2 p1, by show Writable w' (ρ'' m) (cwidth (cs.map _)); rw [hw]; exact p2, fun q => ?_, fun x hx => ?_, fun c kk l hcc i dd hd => ?_, fun u hu => hu, fun q => ⟨hnew' m _ _ q1 ⟨q, rfl⟩, m, _, rfl, q1, q, rfl⟩⟩
   ·rintro ⟨c, kk, ll, i, l, ad, hcc, _⟩
    simp only [Item.shift, List.getElem?_map, Option.map_eq_some_iff] at hcc
    obtain ⟨x, hx, he⟩ := hcc
    have := (onlyH_get q2 c x hx).1
    cases x <;> simp only [Col.shift] at he <;> first | (cases he; exact absurd rfl (this kk ll)) | (cases he) | skip
    split at he <;> cases he
   ·obtain ⟨c, hc1, hc2⟩ := List.any_eq_true.1 hx
    cases c <;> simp only [Col.refs] at hc2 <;> first | (cases hc2) | skip
    have := beq_iff_eq.1 hc2
    rw [← this]; exact isHeap_hname _
   ·simp only [Item.shift, List.getElem?_map, Option.map_eq_some_iff] at hcc
    obtain ⟨x, hx, he⟩ := hcc
    have hkk := (onlyH_get q2 c x hx).2
    cases x <;> simp only [Col.shift] at he <;> first | (cases he) | skip
    rename_i k2 l2
    have := hkk k2 l2 rfl
    subst this
    rw [if_pos rfl] at he
    cases he
    simp only [List.getElem?_map, Option.map_eq_some_iff] at hd
    obtain ⟨d0, hd0, rfl⟩ := hd
    have := hs_join h0 hH.zero (by rw [hn1]; exact hH.pos) hP.zero (p3 c _ l2 hx i d0 hd0) rfl hgk
    rw [hn1] at this
    exact this
  | nil ks =>
   obtain ⟨p1, p2⟩ := nil_rep (w := w') hok
   have hget : ∀ (c : Nat) x, (Item.shift k os.length (.nil ks))[c]? = some x → ∃ kd, ks[c]? = some kd ∧ (x = kd.nil ∨ (kd = .rows k ∧ x = .hss k [])) := fun c x hx => by
    simp only [Item.shift, List.map_map, List.getElem?_map, Option.map_eq_some_iff] at hx
    obtain ⟨kd, h1, h2⟩ := hx
    refine ⟨kd, h1, ?_⟩
    cases kd <;> simp only [Function.comp, Kd.nil] at h2 ⊢ <;> try exact Or.inl h2.symm
    split at h2
    ·rename_i e; subst e; exact Or.inr ⟨rfl, h2.symm⟩
    ·exact Or.inl h2.symm
   have hlen2 : (Item.shift k os.length (.nil ks)).length = ks.length := by simp [Item.shift]
   have hkd : kdsOf (Item.shift k os.length (.nil ks)) = ks := by
    refine List.ext_getElem? fun c => ?_
    simp only [kdsOf, List.getElem?_map]
    cases hx : (Item.shift k os.length (.nil ks))[c]? with
    | none =>
     rw [List.getElem?_eq_none_iff] at hx
     rw [List.getElem?_eq_none (by omega)]; rfl
    | some x =>
     obtain ⟨kd, q1, q2⟩ := hget c x hx
     rw [q1]
     rcases q2 with rfl | ⟨rfl, rfl⟩
     ·cases kd <;> rfl
     ·rfl
   have hwd : cwidth (Item.shift k os.length (.nil ks)) = width ks := by rw [cwidth, hkd]
   refine ⟨loc0, ⟨fun q => ?_, by rw [hwd]; exact hok, fun col hcol => ?_, Nat.le_refl _, fun q => absurd rfl q, fun i hi => absurd hi (Nat.not_lt_zero _), fun c kk ll hcc i l hl => ?_⟩, fun q => absurd rfl q, fun q => ?_, fun x hx => ?_, fun c kk l hcc i dd hd => ?_, fun u hu => hu.1, fun q => absurd rfl q⟩
   ·rw [q] at hkd
    simp only [kdsOf, List.map_nil] at hkd
    have hok : 0 < width ks := hok
    rw [← hkd] at hok; exact absurd hok (by decide)
   ·obtain ⟨c, hc⟩ := List.mem_iff_getElem?.1 hcol
    obtain ⟨kd, q1, q2⟩ := hget c col hc
    rcases q2 with rfl | ⟨rfl, rfl⟩
    ·cases kd <;> simp [Kd.nil, Col.ok, loc0]
    ·simp [Col.ok, loc0]
   ·obtain ⟨kd, q1, q2⟩ := hget c _ hcc
    rcases q2 with q2 | ⟨_, q2⟩
    ·cases kd <;> simp [Kd.nil] at q2
     rw [q2.2] at hl; simp at hl
    ·cases q2
   ·rintro ⟨c, kk, ll, i, l, ad, hcc, hl, _⟩
    obtain ⟨kd, q1, q2⟩ := hget c _ hcc
    rcases q2 with q2 | ⟨_, q2⟩
    ·cases kd <;> simp [Kd.nil] at q2
     rw [q2.2] at hl; simp at hl
    ·cases q2
   ·obtain ⟨c, hc1, hc2⟩ := List.any_eq_true.1 hx
    cases c <;> simp only [Col.refs] at hc2 <;> first | (cases hc2) | skip
    have := beq_iff_eq.1 hc2
    rw [← this]; exact isHeap_hname _
   ·obtain ⟨kd, q1, q2⟩ := hget c _ hcc
    rcases q2 with q2 | ⟨_, q2⟩
    ·cases kd <;> simp [Kd.nil] at q2
    ·cases q2
     simp at hd
 let Ms : Nat → Loc := fun i => if hi : i < its.length then Classical.choose (hat its[i] (List.getElem_mem hi)) else loc0
 have hMs : ∀ i it, its[i]? = some it → ItemIn ρg ρ'' σ'' w.heap.size w' it (it.shift k os.length) (Ms i) := fun i it hi => by
  obtain ⟨hlt, rfl⟩ := List.getElem?_eq_some_iff.1 hi
  show ItemIn ρg ρ'' σ'' w.heap.size w' its[i] _ (if hi : i < its.length then Classical.choose (hat its[i] (List.getElem_mem hi)) else loc0)
  rw [dif_pos hlt]
  exact Classical.choose_spec (hat its[i] (List.getElem_mem hlt))
 have hitem : ∀ (i : Nat) it, its[i]? = some it → (Ms i).cap ≠ 0 → ∀ q, HFoot (ρ'' (hname k)) q → q ≠ (Ms i).1 := fun i it hi hc q hq e => by
  obtain ⟨_, m, b, q1, q2, q3⟩ := (hMs i it hi).own hc
  have hok := hok it (List.mem_of_getElem? hi)
  cases it with
  | nil ks => cases q1
  | vec m' cs =>
   simp only [Item.name, Option.some.injEq] at q1
   subst q1
   rw [hok.1] at q2; cases q2
   refine hsep''.1 (hname k) m' _ _ q hfd'' hok.1 (fun e2 => ?_) hq (by rw [e]; exact q3.foot)
   have q4 : Mem.find σ'' m' = some (.vec cs) := hok.1
   rw [← e2, hfd''] at q4
   cases q4
 obtain ⟨ρ', r1, r2, r3, r4⟩ := insAllC_sound (d := d) (k := 0) (Item.shift k os.length) Ms grown (fun _ _ => rfl) (fun i it hi => by rw [Nat.zero_add]; exact hMs i it hi) hsep'' (Nat.le_refl _) hpw (fun i hi => by
  obtain ⟨q1, q2⟩ := hnew i (by omega)
  rw [Nat.zero_add]
  simp only [freshB, frRefs, List.any_nil, Bool.not_false, Bool.and_true, Bool.and_eq_true, decide_eq_true_eq, Bool.not_eq_true']
  exact ⟨q1, memRefs_put (b := .heap k os) q2 rfl⟩) (fun m b q hb hF i it hi hc => by
  rw [Nat.zero_add] at hc ⊢
  have hge := ((hMs i it hi).own hc).1
  rw [find_put] at hb
  split at hb
  ·rename_i em
   subst em
   rw [hfd] at hb
   simp only [Option.map_some, Option.some.injEq] at hb
   subst hb
   have hF : HFoot (ρg (hname k)) q := hF
   rw [hgk] at hF
   rcases hfoot_join h0 hF with h | h
   ·have := hfootlt _ _ q hfd h; omega
   ·exact hitem i it hi hc q h
  ·rename_i hne
   have := hfootlt m b q hb ((Foot.agree (hgn m hne)).1 hF)
   omega)
 have hext : ∀ n, isHeap n = true → HExt (ρ n) (ρ' n) := fun n hn => by
  rw [r2 n fun i hi => by
   have := isHeap_le hn
   have := (hnew i (by omega)).1
   omega, ← hρg]
  exact ext_upd (join_ext h0) n
 refine ⟨v, av, _, ρ', rfl, hK, resV_sound (fun i it hi u hu => ?_) hres hsr, r1.mem, r1.sep, fun n hn hnn => ?_, hext, fun n b q hn hO => ?_, hk', fun q => by rw [hs] at q; cases q⟩
 ·show u = _
  have hlt := (List.getElem?_eq_some_iff.1 hi).1
  have e := r3 i hlt
  rw [Nat.zero_add] at e
  rw [e]
  exact (hMs i it hi).val u hu
 ·rw [r2 n fun i hi => by rw [Nat.zero_add]; exact hnn i (by omega)]
  exact hgn n fun e => by subst e; rw [hhp] at hn; cases hn
 ·rcases r1.own n b q hn hO with h | h
  ·exact Or.inr h
  ·exact Or.inl h
end
def hfrom : Nat → List (List Int) → List HS
 | _, [] => []
 | n, c :: r => ⟨n, 0, c.length⟩ :: hfrom (n + 1) r
theorem hfrom_app (n : Nat) (L : List (List Int)) (y : List Int) : hfrom n (L ++ [y]) = hfrom n L ++ [⟨n + L.length, 0, y.length⟩] := by
 induction L generalizing n with
 | nil => rfl
 | cons c r ih => simp only [List.cons_append, hfrom, ih, List.length_cons]; congr 4; omega
theorem hfrom_len (n : Nat) (L : List (List Int)) : (hfrom n L).length = L.length := by
 induction L generalizing n with
 | nil => rfl
 | cons c r ih => simp only [hfrom, List.length_cons, ih]
theorem hcons_from (os L : List (List Int)) : hcons (os ++ L) (hfrom os.length L) = L := by
 induction L generalizing os with
 | nil => rfl
 | cons c r ih =>
  have e := ih (os ++ [c])
  simp only [List.append_assoc, List.cons_append, List.nil_append, List.length_append, List.length_cons, List.length_nil] at e
  simp only [hcons, hfrom, List.map_cons] at e ⊢
  rw [e]
  congr 1
  simp [hcon, llget, lsub]
def oneRows (k : IntKind) (K : List (List Int) → Prop) (cs : List Col) : Prop :=
 match cs with
 | [.rows k' l] => if k' = k then K l else False
 | _ => False
def rdr (σ : Mem) (x : AV) (K : List (List Int) → Prop) : Prop := rdx σ [.rows .u8] x fun cs => match unHs σ cs with
 | some c => oneRows .u8 K c
 | none => False
theorem rdx_det2 {σ : Mem} {ks : List Kd} {x : AV} {K : List Col → Prop} (h : rdx σ ks x K) : ∃ cs, K cs ∧ ∀ K' : List Col → Prop, K' cs → rdx σ ks x K' := by
 unfold rdx at h
 split at h
 ·split at h <;> try exact h.elim
  rename_i hq
  exact ⟨_, h, fun K' k => by simpa [rdx, hq] using k⟩
 ·split at h <;> try exact h.elim
  rename_i hq
  split at h <;> try exact h.elim
  rename_i hz
  exact ⟨_, h, fun K' k => by simpa [rdx, hq, hz] using k⟩
 ·split at h <;> try exact h.elim
  rename_i hq
  split at h <;> try exact h.elim
  rename_i hz
  exact ⟨_, h, fun K' k => by simpa [rdx, hq, hz] using k⟩
 ·split at h <;> try exact h.elim
  rename_i hq
  exact ⟨_, h, fun K' k => by simpa [rdx, hq] using k⟩
 ·split at h <;> try exact h.elim
  rename_i hq
  exact ⟨_, h, fun K' k => by simpa [rdx, hq] using k⟩
 ·split at h <;> try exact h.elim
  rename_i hq
  split at h <;> try exact h.elim
  rename_i hf
  exact ⟨_, h.2, fun K' k => by simp only [rdx, hq, hf]; exact ⟨h.1, k⟩⟩
 ·exact ⟨_, h, fun K' k => by simpa [rdx] using k⟩
 ·split at h <;> try exact h.elim
  rename_i hq
  exact ⟨_, h, fun K' k => by simpa [rdx, hq] using k⟩
 ·exact h.elim
theorem rdr_row {σ : Mem} {x : AV} {K : List (List Int) → Prop} (h : rdr σ x K) : ∃ l, K l ∧ rdx σ [.rows .u8] x (fun c => unHs σ c = some [.rows .u8 l]) := by
 obtain ⟨cs, h1, h2⟩ := rdx_det2 h
 split at h1 <;> try exact h1.elim
 rename_i c hc
 unfold oneRows at h1
 split at h1 <;> try exact h1.elim
 split at h1 <;> try exact h1.elim
 rename_i hk
 subst hk
 exact ⟨_, h1, h2 _ hc⟩
section
variable {P : Program} {Γ : Gam} {D : Hints}
def KnownR (π : Nat → Nat) (τ : Mem) (n : Nat) : Prop := isHeap n = false ∧ 200000 ≤ n ∧ ((Mem.find τ n).isSome = true ∨ π n = n)
theorem Good.inlr (hm : P.follows .mixedOrders = true) (hΓ : GoodG P Γ) {f : FuncId} {fn : Func} (hf : P.funcs[f]? = some fn) (hb : fn.body.isSome = true) {s : Spec} (hs : s.mods = false)
  (hsem : ∀ d args σ (K : AV → Mem → Prop), s.sem d args σ K → ∃ π cargs τ, Enter π σ τ ∧ (∀ n b, Mem.find τ n = some b → roB b = true) ∧ args = cargs.map (AV.ren π) ∧ ∃ n, callsx P Γ D fn n cargs τ fun av _ => ∃ av0, (∀ n, av.refs n = true → KnownR π τ n) ∧ (∀ ρ v, SRep ρ (av.ren π) v → SRep ρ av0 v) ∧ K av0 σ) : Good P f s := by
 refine ⟨fun d args σ K h ρ w vals hg hmem hsep hl hv hnew => ?_⟩
 obtain ⟨π, cargs, τ, hE, hro, rfl, n, hc⟩ := hsem d args σ K h
 have hp := hE.pi
 let ρc : Rho := fun n => ρ (π n)
 have hmemc : MemRep ρc τ w := fun n b hb => by
  obtain ⟨_, c, h1, h2⟩ := hE.sub n b hb
  exact (BlkRep.ren hp).2 (h2.rep (hmem _ _ h1))
 have hno : ∀ n b k, Mem.find τ n = some b → ¬ Out ρc n b k := fun n b k hb hO => by
  have := hro n b hb
  cases b <;> simp [roB] at this <;> exact hO
 have hsepc : Sep ρc τ := ⟨fun n m b c k hn _ _ hO => absurd hO (hno n b k hn), fun n b k hn hO => absurd hO (hno n b k hn)⟩
 have hgc : Glob ρc := fun g => by show (ρ (π (gname g))).1 = g ∧ (ρ (π (gname g))).2 = 0; rw [hE.glob]; exact hg g
 refine (callsx_sound hm hΓ hf hb hc (ρ := ρc) (ex := fun _ => False) hgc (by simpa using hl) (fun j x v hx hu => (SRep.ren hp).2 (hv j (x.ren π) v (by simp [hx]) hu)) hmemc hsepc (fun n b k hn hO => absurd hO (hno n b k hn))).mono ?_
 rintro e w' ⟨v, av, σ2, ρ2, rfl, ⟨av0, hav, hup, hK⟩, hsr, hmem2, hsep2, hfix, hext, hown, hk⟩
 have hsame : ∀ i, i < w.heap.size → w'.heap[i]? = w.heap[i]? := fun i hi => hk.block i hi (fun q => q)
 refine ⟨v, av0, σ, ρ, rfl, hK, hup _ _ ((SRep.ren hp).1 (hsr.agree fun r hr => ?_)), hmem.keeps (fun n b k hb hk => hsame _ (in_range (hmem n b hb) hk)), hsep, fun _ _ _ => rfl, fun _ _ => .refl _, fun n b k hn hO => Or.inl ⟨n, b, hn, hO⟩, ⟨hk.os, hk.tape, hk.output, hk.size, fun k hk' _ => hsame k hk'⟩, fun _ => ⟨hk, fun _ _ q => q, fun _ _ => rfl⟩⟩
 obtain ⟨h1, h2, _⟩ := hav r hr
 exact .of_eq (hfix r h2 h1).symm
def ResR (d : Nat) (σ : Mem) (k : IntKind) (K : AV → Mem → Prop) (av : AV) (σ' : Mem) : Prop :=
 ∃ m ds os', av = .one (.vec m) ∧ Mem.find σ' m = some (.vec [.hss k ds]) ∧ Mem.heap σ' k = some os' ∧ K (.one (.vec d)) (Mem.ins d (.rview [.rows k (hcons os' ds)]) σ)
theorem Good.privR (hm : P.follows .mixedOrders = true) (hΓ : GoodG P Γ) {f : FuncId} {fn : Func} (hf : P.funcs[f]? = some fn) (hb : fn.body.isSome = true) {s : Spec} (hs : s.mods = false) (hnw : s.news = 1)
  (hsem : ∀ d args σ (K : AV → Mem → Prop), s.sem d args σ K → ∃ k k2 cargs τ τ', Canon σ 0 args cargs τ ∧ memRefs (hname k) τ = false ∧ memRefs (hname k2) τ = false ∧ (∀ x ∈ cargs, x.refs (hname k) = false) ∧ (∀ x ∈ cargs, x.refs (hname k2) = false) ∧ args.length ≤ 1000 ∧
   (∀ n, Mem.find τ' n = Mem.find ((hname k, .heap k [[]]) :: (hname k2, .heap k2 [[]]) :: τ) n) ∧ ∃ n, callsx P Γ D fn n cargs τ' (ResR d σ k K)) : Good P f s := by
 refine ⟨fun d args σ K h ρ w vals hg hmem hsep hl hv hnew => ?_⟩
 obtain ⟨k, k2, cargs, τ, τ', hcan, hτr, hτr2, hcr, hcr2, hlen, hτ, n, hc⟩ := hsem d args σ K h
 obtain ⟨h1, Ls, h2⟩ := canon_sound hmem hsep hcan vals.toList (by simpa using hl) (fun i x v hx hu => hv i x v hx (by simpa using hu))
 generalize hρ0 : rhoC ρ (fun n => Ls (n % 1000) (n / 1000)) = ρ0
 have hρc : ∀ i f, 0 ≤ i → i < 0 + args.length → f < 100 → ρ0 (200000 + (i + 1000 * f)) = Ls i f := fun i f _ hi hf => by
  rw [← hρ0, rhoC_arg (by omega)]
  show Ls ((i + 1000 * f) % 1000) ((i + 1000 * f) / 1000) = Ls i f
  rw [show (i + 1000 * f) % 1000 = i by omega, show (i + 1000 * f) / 1000 = f by omega]
 have hgg : ∀ g, ρ0 (gname g) = ρ (gname g) := fun g => by rw [← hρ0]; exact rhoC_glob
 obtain ⟨g1, g2⟩ := h2 ρ0 hρc hgg (fun n hn => by rw [← hρ0]; exact rhoC_heap hn)
 have hhp := isHeap_hname k
 have hhp2 := isHeap_hname k2
 have hble := isHeap_le hhp
 have hble2 := isHeap_le hhp2
 generalize hρ1 : (fun n => if n = hname k ∨ n = hname k2 then heap0 else ρ0 n : Rho) = ρc
 have hck : ∀ n, n = hname k ∨ n = hname k2 → ρc n = heap0 := fun n hn => by rw [← hρ1]; exact if_pos hn
 have hcn : ∀ n, n ≠ hname k → n ≠ hname k2 → ρc n = ρ0 n := fun n h1 h2 => by rw [← hρ1]; exact if_neg (by rintro (q | q); exact h1 q; exact h2 q)
 have hgc : Glob ρc := fun g => by rw [hcn _ (by simp only [gname]; omega) (by simp only [gname]; omega), hgg]; exact hg g
 have unf : ∀ {m b}, Mem.find τ' m = some b → (m = hname k ∧ b = .heap k [[]]) ∨ (m = hname k2 ∧ b = .heap k2 [[]]) ∨ (m ≠ hname k ∧ m ≠ hname k2 ∧ Mem.find τ m = some b) := by
  intro m b hb
  rw [hτ] at hb
  simp only [Mem.find] at hb
  split at hb
  ·rename_i e; cases hb; exact Or.inl ⟨e.symm, rfl⟩
  ·rename_i e
   split at hb
   ·rename_i e2; cases hb; exact Or.inr (Or.inl ⟨e2.symm, rfl⟩)
   ·rename_i e2; exact Or.inr (Or.inr ⟨Ne.symm e, Ne.symm e2, hb⟩)
 have hno := canon_views hcan ρc
 have hz : ∀ q, ¬ HFoot heap0 q := by
  rintro q ⟨j, h1, h2, _⟩
  exact h2 rfl
 have hout : ∀ m b q, Mem.find τ' m = some b → ¬ Out ρc m b q := by
  intro m b q hb hO
  rcases unf hb with ⟨rfl, rfl⟩ | ⟨rfl, rfl⟩ | ⟨_, _, hb⟩
  ·have hO : HFoot (ρc (hname k)) q := hO
   rw [hck _ (Or.inl rfl)] at hO; exact hz q hO
  ·have hO : HFoot (ρc (hname k2)) q := hO
   rw [hck _ (Or.inr rfl)] at hO; exact hz q hO
  ·exact hno m b q hb hO
 have hmemc : MemRep ρc τ' w := by
  intro m b hb
  rcases unf hb with ⟨rfl, rfl⟩ | ⟨rfl, rfl⟩ | ⟨hne, hne2, hb⟩
  ·exact ⟨hhp, by rw [hck _ (Or.inl rfl)]; exact heap0_rep w k⟩
  ·exact ⟨hhp2, by rw [hck _ (Or.inr rfl)]; exact heap0_rep w k2⟩
  ·refine (g2 m b hb).agree (hcn m hne hne2) fun x hx => .of_eq (hcn x (fun e => ?_) (fun e => ?_))
   ·subst e
    have := (memRefs_out hτr hb).2
    rw [this] at hx; cases hx
   ·subst e
    have := (memRefs_out hτr2 hb).2
    rw [this] at hx; cases hx
 have hsepc : Sep ρc τ' := ⟨fun n m b c k hn _ _ hO => absurd hO (hout n b k hn), fun n b k hn hO => absurd hO (hout n b k hn)⟩
 refine (callsx_sound hm hΓ hf hb hc (ex := fun _ => False) hgc (by simpa using h1) (fun i y v hy hu => (g1 i y v hy (by simpa using hu)).agree fun x hx => .of_eq (hcn x (fun e => by
  subst e
  rw [hcr y (List.mem_of_getElem? hy)] at hx; cases hx) (fun e => by
  subst e
  rw [hcr2 y (List.mem_of_getElem? hy)] at hx; cases hx))) hmemc hsepc (fun n b k hn hO => absurd hO (hout n b k hn))).mono ?_
 rintro e w' ⟨v, av', σ'', ρ'', rfl, ⟨m, ds, os', rfl, hfm, hos', hK⟩, hsr, hmem'', hsep'', _, _, hown'', hk⟩
 have hsame : ∀ i, i < w.heap.size → w'.heap[i]? = w.heap[i]? := fun i hi => hk.block i hi (fun q => q)
 have hk' : Keeps (OwnAt ρ σ) w w' := ⟨hk.os, hk.tape, hk.output, hk.size, fun k hk' _ => hsame k hk'⟩
 let E : Env := ⟨w, ρ, OwnAt ρ σ, hg⟩
 let a : Act := { tmps := #[], defers := [] }
 have hmem' : MemRep ρ σ w' := hmem.keeps (fun n b k hb hk => hsame _ (in_range (hmem n b hb) hk))
 have hR : Rep E ρ [] σ a w' := ⟨⟨rfl, fun t v ht => by simp [a] at ht⟩, rfl, hmem', hsep, fun _ _ _ => rfl, fun _ _ => .refl _, fun n b k hn hO => Or.inr ⟨n, b, hn, hO⟩, hk'⟩
 have hfd'' := heap_find hos'
 obtain ⟨p1, p2, p3⟩ := hmem'' m _ hfm
 have hun : unHs σ'' [.hss k ds] = some [.rows k (hcons os' ds)] := by simp only [unHs, unH, hos']
 obtain ⟨u1, u2⟩ := unHs_rep hmem'' hsep'' hun p1 p3
 have hnew' : ∀ m b q, Mem.find σ'' m = some b → Out ρ'' m b q → w.heap.size ≤ q := fun m b q hm hO => by
  rcases hown'' m b q hm hO with q | q
  ·exact q
  ·exact q.elim
 have hfoot : ∀ q, FootL (ρ'' m) [.rows k (hcons os' ds)] q → w.heap.size ≤ q := by
  intro q hq
  rcases hq with ⟨q1, rfl⟩ | ⟨c, kk, ll, i, l, ad, hc1, hc2, hc3, hc4, rfl⟩
  ·exact hnew' m _ _ hfm ⟨by have := p1.cap; omega, rfl⟩
  ·cases c with
   | succ c => simp at hc1
   | zero =>
    simp at hc1
    obtain ⟨rfl, rfl⟩ := hc1
    simp only [hcons, List.getElem?_map, Option.map_eq_some_iff] at hc2
    obtain ⟨d0, hd0, rfl⟩ := hc2
    obtain ⟨A, cap, e1, e2, e3, e4, e5, e6, e7⟩ := p3 0 k ds rfl i d0 hd0
    simp only [Value.slice.injEq] at e1
    obtain ⟨a1, a2, a3⟩ := e1
    have hlen : d0.len ≠ 0 := fun q => hc3 (by simp [hcon, lsub, q])
    have hA : A = ((ρ'' (hname k)).el 0 d0.j).a.map (·.add d0.off) := by
     rcases e5 with q | q
     ·omega
     ·exact q
    rw [hc4, hA] at a1
    cases hb0 : ((ρ'' (hname k)).el 0 d0.j).a with
    | none => rw [hb0] at a1; cases a1
    | some b0 =>
     rw [hb0] at a1
     simp only [Option.map_some, Option.some.injEq] at a1
     have hcap : ((ρ'' (hname k)).el 0 d0.j).cap ≠ 0 := by omega
     refine hnew' (hname k) _ _ hfd'' ⟨d0.j, e4, hcap, ?_⟩
     rw [a1]
     simp only [Elt.loc, hb0]
     simp only [Addr.add]
     split <;> rfl
 obtain ⟨n1, n2⟩ := hnew 0 (by omega)
 rw [Nat.mul_zero, Nat.add_zero] at n1 n2
 have hfr : freshB d [] σ = true := by simp [freshB, frRefs, n1, n2]
 have hlt : ∀ m c q, Mem.find σ m = some c → Foot ρ m c q → q < w.heap.size := fun m c q hm hF => in_range (hmem m c hm) hF
 have add := (add_sound (d := d) (L := ρ'' m) (b := .rview [.rows k (hcons os' ds)]) hR hfr hk' (fun _ _ _ _ _ => rfl) ⟨by rw [upd_eq]; exact u1, by rw [upd_eq]; exact u2 _⟩ (fun q hq => hq.elim) (fun q hq m' c hm' hO => by
  have hq : FootL (upd ρ d (ρ'' m) d) [.rows k (hcons os' ds)] q := hq
  rw [upd_eq] at hq
  have := hfoot q hq
  have := hlt m' c q hm' hO.foot
  omega)).find_eq (find_ins n2)
 refine ⟨v, _, _, _, rfl, hK, ?_, add.mem, add.sep, fun n hh hn => upd_ne (by have := hn 0 (by omega); rw [Nat.mul_zero, Nat.add_zero] at this; exact this), fun n hn => .of_eq (upd_ne (by have := isHeap_le hn; omega)), fun n b q hn hO => ?_, hk', fun _ => ⟨hk, ins_old hfr, fun n hn => upd_ne (by have := isHeap_le hn; omega)⟩⟩
 ·show v = _
  rw [upd_eq]; exact hsr
 ·rcases add.own n b q hn hO with h | h
  ·exact Or.inr h
  ·exact Or.inl h
end
def rtB (l : List Int) : Bool := Nat.ble 8 (llen l) && Nat.ble (llen l) 48
def partedS : Spec := ⟨0, false, fun _ args σ K => match args with
 | [.one (.el n 0 i)] => match Mem.find σ n, isHeap n with
  | some (.rview [.rows .u8 ll]), false => (rtB (llget ll i) = true → K (.tup [.g [.ints .u8 8 (lsub (llget ll i) 0 8)], .c (.esl n 0 i 8 (nsub (llen (llget ll i)) 8)), .c (.lit true)]) σ) ∧
    (rtB (llget ll i) = false → K (.tup [.g [.ints .u8 8 (lzeros 8)], .c (.con (.slice none 0 0)), .c (.lit false)]) σ)
  | _, _ => False
 | _ => False⟩
def gamD1 : Gam := ext gam0 24 partedS
theorem mget_put {α : Type} {x y : List Int} {v : α} (d : α) : ∀ {l : List (List Int × α)}, mget d (mput l x v) y = if y = x then v else mget d l y
 | [] => by
  simp only [mput, mget]
  by_cases h : y = x
  ·rw [leq_eq.2 h, if_pos h]
  ·cases q : leq y x with
   | true => exact absurd (leq_eq.1 q) h
   | false => rw [if_neg h]
 | p :: r => by
  simp only [mput]
  cases hq : leq x p.1 with
  | true =>
   have hx := leq_eq.1 hq
   simp only [mget]
   cases q : leq y p.1 with
   | true => rw [if_pos ((leq_eq.1 q).trans hx.symm)]
   | false =>
    have : y ≠ x := fun e => by rw [e, hq] at q; cases q
    rw [if_neg this]
  | false =>
   have ih := mget_put (x := x) (y := y) (v := v) d (l := r)
   simp only [mget]
   cases q : leq y p.1 with
   | true =>
    have : y ≠ x := fun e => by rw [← e, q] at hq; cases hq
    simp only [if_neg this]
   | false => exact ih
theorem mhas_put {α : Type} {x y : List Int} {v : α} : ∀ {l : List (List Int × α)}, mhas (mput l x v) y = true ↔ (mhas l y = true ∨ y = x)
 | [] => by
  simp only [mput, mhas]
  cases q : leq y x with
  | true => simp [leq_eq.1 q]
  | false =>
   have : y ≠ x := fun e => by rw [leq_eq.2 e] at q; cases q
   simp [this]
 | p :: r => by
  simp only [mput]
  cases hq : leq x p.1 with
  | true =>
   have hx := leq_eq.1 hq
   simp only [mhas]
   cases q : leq y p.1 with
   | true => simp
   | false =>
    have : y ≠ x := fun e => by rw [e, hq] at q; cases q
    simp [this]
  | false =>
   simp only [mhas]
   cases q : leq y p.1 with
   | true => simp
   | false => simp only [mhas_put (l := r)]
theorem ment_put {α : Type} {d v : α} {x : List Int} : ∀ {l : List (List Int × α)}, mseti (ment d l x) (mix l x) v = mput l x v
 | [] => by simp [ment, mhas, mix, mseti, mput]
 | p :: r => by
  have ih := ment_put (d := d) (v := v) (x := x) (l := r)
  simp only [ment, mhas, mix, mput]
  cases hq : leq x p.1 with
  | true => simp [mseti]
  | false =>
   simp only
   unfold ment at ih
   cases h : mhas r x with
   | true => rw [h] at ih; simp only [mseti]; rw [ih]
   | false => rw [h] at ih; simp only [List.cons_append, mseti]; rw [ih]
theorem mix_lt {α : Type} {d : α} {x : List Int} : ∀ {l : List (List Int × α)}, mix l x < (ment d l x).length
 | [] => by simp [ment, mhas, mix]
 | p :: r => by
  have ih := mix_lt (d := d) (x := x) (l := r)
  simp only [ment, mhas, mix]
  cases hq : leq x p.1 with
  | true => simp
  | false =>
   simp only
   unfold ment at ih
   cases h : mhas r x with
   | true => rw [h] at ih; simp only [List.length_cons] at ih ⊢; omega
   | false => rw [h] at ih; simp only [List.length_append, List.length_cons, List.length_nil] at ih ⊢; omega
theorem mget_no {α : Type} {d : α} {x : List Int} {l : List (List Int × α)} (h : mhas l x = false) : mget d l x = d := by
 have : mat l x = none := by
  cases hq : mat l x with
  | none => rfl
  | some i => obtain ⟨_, _, _, g, _⟩ := mat_hit hq; rw [h] at g; cases g
 exact (mat_miss this).2.1 d
def nmL (p : List Int) : List Int := lsub p 0 8
def atD (ll : List (List Int)) (x : List Int) (k : Nat) : Bool := rtB (llget ll k) && leq (nmL (llget ll k)) x
def idxL (ll : List (List Int)) (x : List Int) (t : Nat) : List Int := ((List.range t).filter (atD ll x)).map fun k : Nat => (k : Int)
theorem idx_succ {ll : List (List Int)} {x : List Int} {t : Nat} : idxL ll x (t + 1) = if atD ll x t = true then idxL ll x t ++ [(t : Int)] else idxL ll x t := by
 unfold idxL
 rw [List.range_succ, List.filter_append, List.map_append]
 cases h : atD ll x t with
 | true => simp [h]
 | false => simp [h]
theorem idx_mem {ll : List (List Int)} {x : List Int} {t : Nat} {v : Int} : v ∈ idxL ll x t ↔ ∃ k : Nat, v = (k : Int) ∧ k < t ∧ atD ll x k = true := by
 unfold idxL
 rw [List.mem_map]
 constructor
 ·rintro ⟨k, hk, rfl⟩
  rw [List.mem_filter, List.mem_range] at hk
  exact ⟨k, rfl, hk.1, hk.2⟩
 ·rintro ⟨k, rfl, h1, h2⟩
  exact ⟨k, List.mem_filter.2 ⟨List.mem_range.2 h1, h2⟩, rfl⟩
def exch1 (ll : List (List Int)) (i : Nat) : List Int :=
 if rtB (llget ll i) = true then
  (if (idxL ll (nmL (llget ll i)) ll.length).length = 1 then [0]
  else if (idxL ll (nmL (llget ll i)) ll.length).length = 2 then
   1 :: lsub (llget ll (nat (lget (idxL ll (nmL (llget ll i)) ll.length) 0 + lget (idxL ll (nmL (llget ll i)) ll.length) 1 - (i : Int)))) 8 (nsub (llen (llget ll (nat (lget (idxL ll (nmL (llget ll i)) ll.length) 0 + lget (idxL ll (nmL (llget ll i)) ll.length) 1 - (i : Int))))) 8)
  else [2])
 else [3]
def exchL (ll : List (List Int)) : List (List Int) := tab ll.length (exch1 ll)
structure DI (ll : List (List Int)) (t : Nat) (mp : List (List Int × HS)) (os : List (List Int)) : Prop where
 z : 0 < os.length
 has : ∀ x, mhas mp x = true ↔ idxL ll x t ≠ []
 ent : ∀ x, mhas mp x = true → (mget hs0 mp x).j ≠ 0 ∧ (mget hs0 mp x).j < os.length ∧ (mget hs0 mp x).off + (mget hs0 mp x).len ≤ (llget os (mget hs0 mp x).j).length ∧ lsub (llget os (mget hs0 mp x).j) (mget hs0 mp x).off (mget hs0 mp x).len = idxL ll x t
 ne : ∀ x y, mhas mp x = true → mhas mp y = true → x ≠ y → (mget hs0 mp x).j ≠ (mget hs0 mp y).j
theorem DI.start (ll : List (List Int)) : DI ll 0 [] [[]] :=
 ⟨by simp, fun x => by simp [mhas, idxL], fun x h => by simp [mhas] at h, fun x y h => by simp [mhas] at h⟩
theorem DI.len {ll : List (List Int)} {t : Nat} {mp : List (List Int × HS)} {os : List (List Int)} (h : DI ll t mp os) (x : List Int) : (mget hs0 mp x).len = (idxL ll x t).length := by
 cases q : mhas mp x with
 | true =>
  obtain ⟨_, _, g3, g4⟩ := h.ent x q
  rw [← g4, lsub_len _ _ _ g3]
 | false =>
  rw [mget_no q]
  have : idxL ll x t = [] := Classical.byContradiction fun e => by rw [(h.has x).2 e] at q; cases q
  rw [this]; rfl
theorem DI.get {ll : List (List Int)} {t : Nat} {mp : List (List Int × HS)} {os : List (List Int)} (h : DI ll t mp os) {x : List Int} {k : Nat} (hk : k < (idxL ll x t).length) : lget (llget os (mget hs0 mp x).j) ((mget hs0 mp x).off + k) = lget (idxL ll x t) k := by
 have hx : mhas mp x = true := (h.has x).2 fun e => by rw [e] at hk; simp at hk
 obtain ⟨_, _, g3, g4⟩ := h.ent x hx
 have hl := h.len x
 rw [← g4]
 unfold lget
 rw [getD_lsub _ _ _ _ _ (by omega)]
theorem DI.skip {ll : List (List Int)} {t : Nat} {mp : List (List Int × HS)} {os : List (List Int)} (h : DI ll t mp os) (hr : rtB (llget ll t) = false) : DI ll (t + 1) mp os := by
 have e : ∀ x, idxL ll x (t + 1) = idxL ll x t := fun x => by rw [idx_succ, if_neg]; simp [atD, hr]
 exact ⟨h.z, fun x => by rw [e]; exact h.has x, fun x hx => by rw [e]; exact h.ent x hx, h.ne⟩
theorem lput_end {l : List Int} {off len : Nat} {v : Int} (h : off + len ≤ l.length) : lsub (lput l (off + len) [v]) off (len + 1) = lsub l off len ++ [v] := by
 unfold lput lsub
 apply List.ext_getElem?
 intro j
 simp only [List.length_cons, List.length_nil, Nat.zero_add, List.getElem?_take, List.getElem?_drop, List.getElem?_append, List.length_append, List.length_take, List.length_drop, Nat.min_eq_left h]
 by_cases h1 : j < len
 ·rw [if_pos (by omega), if_pos (by omega), if_pos (by omega), if_pos (by omega), if_pos (by omega), if_pos (by omega)]
 ·by_cases h2 : j = len
  ·subst h2
   rw [if_pos (by omega), if_pos (by omega), if_neg (by omega), if_neg (by omega)]
   rw [show off + j - (off + j) = 0 by omega, show j - min j (l.length - off) = 0 by omega]
  ·rw [if_neg (by omega), if_neg (by omega)]
   rw [List.getElem?_eq_none (by simp; omega)]
theorem DI.step {ll : List (List Int)} {t : Nat} {mp : List (List Int × HS)} {os os' : List (List Int)} {j' off' : Nat} (h : DI ll t mp os) (hr : rtB (llget ll t) = true)
  (hA : AppR os (mget hs0 mp (nmL (llget ll t))).j (mget hs0 mp (nmL (llget ll t))).off (mget hs0 mp (nmL (llget ll t))).len [(t : Int)] os' j' off') :
  DI ll (t + 1) (mput mp (nmL (llget ll t)) ⟨j', off', (mget hs0 mp (nmL (llget ll t))).len + 1⟩) os' := by
 generalize hx : nmL (llget ll t) = x at hA ⊢
 have hat : ∀ y, atD ll y t = true ↔ y = x := fun y => by
  simp only [atD, hr, Bool.true_and, leq_eq, hx]
  exact eq_comm
 have e1 : idxL ll x (t + 1) = idxL ll x t ++ [(t : Int)] := by rw [idx_succ, if_pos ((hat x).2 rfl)]
 have e2 : ∀ y, y ≠ x → idxL ll y (t + 1) = idxL ll y t := fun y hy => by rw [idx_succ, if_neg fun q => hy ((hat y).1 q)]
 have hhas : ∀ y, mhas (mput mp x ⟨j', off', (mget hs0 mp x).len + 1⟩) y = true ↔ idxL ll y (t + 1) ≠ [] := fun y => by
  rw [mhas_put]
  by_cases q : y = x
  ·subst q; rw [e1]; simp
  ·rw [e2 y q, h.has y]; simp [q]
 cases hA with
 | here hj =>
  have hj := hj (by simp)
  have hm : mhas mp x = true := by
   cases q : mhas mp x with
   | true => rfl
   | false => rw [mget_no q] at hj; exact absurd rfl hj
  obtain ⟨g1, g2, g3, g4⟩ := h.ent x hm
  have other : ∀ y, y ≠ x → mhas mp y = true → llget (llset os (mget hs0 mp x).j (lput (llget os (mget hs0 mp x).j) ((mget hs0 mp x).off + (mget hs0 mp x).len) [(t : Int)])) (mget hs0 mp y).j = llget os (mget hs0 mp y).j := fun y hy hmy => by
   rw [llset_get _ _ _ _ g2, if_neg (h.ne y x hmy hm hy)]
  refine ⟨by simpa [llset] using h.z, hhas, fun y hy => ?_, fun y z hy hz hyz => ?_⟩
  ·rw [mget_put]
   by_cases q : y = x
   ·subst q
    rw [if_pos rfl]
    refine ⟨g1, by simpa [llset] using g2, ?_, ?_⟩
    ·show _ + (_ + 1) ≤ (llget _ _).length
     rw [llset_get _ _ _ _ g2, if_pos rfl]
     simp only [lput, List.length_append, List.length_take, List.length_drop, List.length_cons, List.length_nil]
     omega
    ·show lsub (llget _ _) _ _ = _
     rw [llset_get _ _ _ _ g2, if_pos rfl, lput_end g3, g4, e1]
   ·rw [if_neg q]
    have hmy : mhas mp y = true := by
     rcases mhas_put.1 hy with k | k
     ·exact k
     ·exact absurd k q
    obtain ⟨k1, k2, k3, k4⟩ := h.ent y hmy
    rw [other y q hmy, e2 y q]
    exact ⟨k1, by simpa [llset] using k2, k3, k4⟩
  ·rw [mget_put, mget_put]
   have old : ∀ y, mhas (mput mp x ⟨(mget hs0 mp x).j, (mget hs0 mp x).off, (mget hs0 mp x).len + 1⟩) y = true → mhas mp y = true := fun y hy => by
    rcases mhas_put.1 hy with k | k
    ·exact k
    ·rw [k]; exact hm
   by_cases q : y = x
   ·subst q
    rw [if_pos rfl, if_neg (Ne.symm hyz)]
    exact h.ne y z hm (old z hz) hyz
   ·rw [if_neg q]
    by_cases q2 : z = x
    ·subst q2
     rw [if_pos rfl]
     exact h.ne y z (old y hy) hm hyz
    ·rw [if_neg q2]; exact h.ne y z (old y hy) (old z hz) hyz
 | new =>
  have hlen := h.len x
  have hcon : lsub (llget os (mget hs0 mp x).j) (mget hs0 mp x).off (mget hs0 mp x).len = idxL ll x t := by
   cases q : mhas mp x with
   | true => exact (h.ent x q).2.2.2
   | false =>
    have : idxL ll x t = [] := Classical.byContradiction fun e => by rw [(h.has x).2 e] at q; cases q
    rw [this, mget_no q]; simp [lsub, hs0]
  have old : ∀ y, y ≠ x → mhas (mput mp x ⟨os.length, 0, (mget hs0 mp x).len + 1⟩) y = true → mhas mp y = true := fun y hyx hy => by
   rcases mhas_put.1 hy with k | k
   ·exact k
   ·exact absurd k hyx
  have gold : ∀ j, j < os.length → llget (os ++ [lsub (llget os (mget hs0 mp x).j) (mget hs0 mp x).off (mget hs0 mp x).len ++ [(t : Int)]]) j = llget os j := fun j hj => by
   simp only [llget, List.getD]; rw [List.getElem?_append_left hj]
  have gnew : llget (os ++ [lsub (llget os (mget hs0 mp x).j) (mget hs0 mp x).off (mget hs0 mp x).len ++ [(t : Int)]]) os.length = idxL ll x (t + 1) := by
   rw [hcon, ← e1]
   simp only [llget, List.getD]; rw [List.getElem?_append_right (Nat.le_refl _), Nat.sub_self]; rfl
  have hz := h.z
  refine ⟨by simp, hhas, fun y hy => ?_, fun y z hy hz' hyz => ?_⟩
  ·rw [mget_put]
   by_cases q : y = x
   ·subst q
    rw [if_pos rfl]
    refine ⟨by show os.length ≠ 0; omega, by simp, ?_, ?_⟩
    ·show 0 + (_ + 1) ≤ (llget _ os.length).length
     rw [gnew, e1]; simp; omega
    ·show lsub (llget _ os.length) 0 _ = _
     rw [gnew, hlen, e1, lsub, List.drop_zero, List.take_of_length_le (by simp)]
   ·rw [if_neg q]
    obtain ⟨k1, k2, k3, k4⟩ := h.ent y (old y q hy)
    rw [gold _ k2, e2 y q]
    exact ⟨k1, by simp; omega, k3, k4⟩
  ·rw [mget_put, mget_put]
   by_cases q : y = x
   ·subst q
    rw [if_pos rfl, if_neg (Ne.symm hyz)]
    have := (h.ent z (old z (Ne.symm hyz) hz')).2.1
    show os.length ≠ _
    omega
   ·rw [if_neg q]
    by_cases q2 : z = x
    ·subst q2
     rw [if_pos rfl]
     have := (h.ent y (old y q hy)).2.1
     show _ ≠ os.length
     omega
    ·rw [if_neg q2]; exact h.ne y z (old y q hy) (old z q2 hz') hyz
end Go.Sx
namespace Go.Proofs.Ytnpfockaigegiaa.G
open Go Go.Sx Go.Sx
set_option maxRecDepth 100000
theorem parted_vc (R : AV → Mem → Prop) (fuel : Nat) (ll : List (List Int)) (i : Nat) : callsx Try.prog gam0 [] Try.f24 (fuel + 1) [.one (.el 200000 0 i)] [(200000, .rview [.rows .u8 ll])] R = (((((ilt (ofNat (llen (llget ll i))) 8) = false) → ((((igt (ofNat (llen (llget ll i))) 48) = true) → (R (AV.tup [(TV.g [(Seg.ints IntKind.u8 8 (lzeros 8))]), (TV.c (AC.con (Value.slice (Option.none) 0 0))), (TV.c (AC.lit false))]) [(2, Blk.own 35 [(Seg.ints IntKind.u8 8 (lzeros 8))]), (200000, Blk.rview [(Col.rows IntKind.u8 ll)])])) ∧ (((igt (ofNat (llen (llget ll i))) 48) = false) → ((Fits 8 (llen (llget ll i))) ∧ ((Fits 8 (llen (llget ll i))) ∧ (((NonNeg 8) ∧ (Fits 8 (llen (llget ll i)))) ∧ (R (AV.tup [(TV.g [(Seg.ints IntKind.u8 8 (lsub (llget ll i) 0 8))]), (TV.c (AC.esl 200000 0 i 8 (nsub (llen (llget ll i)) 8))), (TV.c (AC.lit true))]) [(2, Blk.own 35 [(Seg.ints IntKind.u8 8 (lsub (llget ll i) 0 8))]), (200000, Blk.rview [(Col.rows IntKind.u8 ll)])]))))))) ∧ (((ilt (ofNat (llen (llget ll i))) 8) = true) → (R (AV.tup [(TV.g [(Seg.ints IntKind.u8 8 (lzeros 8))]), (TV.c (AC.con (Value.slice (Option.none) 0 0))), (TV.c (AC.lit false))]) [(2, Blk.own 35 [(Seg.ints IntKind.u8 8 (lzeros 8))]), (200000, Blk.rview [(Col.rows IntKind.u8 ll)])])))) := by kernel_rfl
end Go.Proofs.Ytnpfockaigegiaa.G
