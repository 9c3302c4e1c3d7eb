import Derived.Test.YtacnldmmacjpoaaNoiseCellsC
import Derived.Test.YtacnldmmacjpoaaProg
set_option linter.unusedSimpArgs false
set_option linter.unusedVariables false
namespace Go.Sx
open Go
structure Grown2 (ls : List HS) (m g : Nat → Int) (c : Nat → Nat) (gs : List HS) (H : List (List Int)) : Prop where
 len : gs.length = ls.length
 z : llget H 0 = []
 own : ∀ k, k < ls.length → (hget gs k).j < H.length ∧ (hget gs k).len = (hget ls k).len + c k ∧ (hget gs k).off + (hget gs k).len ≤ (llget H (hget gs k).j).length ∧ ∀ t, t < (hget gs k).len → lget (llget H (hget gs k).j) ((hget gs k).off + t) = if t < (hget ls k).len then m k else g k
 old : ∀ k, k < ls.length → (hget ls k).j < H.length ∧ (hget ls k).off + (hget ls k).len ≤ (llget H (hget ls k).j).length ∧ ∀ t, t < (hget ls k).len → lget (llget H (hget ls k).j) ((hget ls k).off + t) = m k
 same : ∀ k, k < ls.length → (hget gs k).j = (hget ls k).j → (hget gs k).off = (hget ls k).off ∨ (hget gs k).j = 0
 ne : ∀ k k', k < ls.length → k' < ls.length → k ≠ k' → ((hget gs k).j = (hget gs k').j → (hget gs k).j = 0) ∧ ((hget gs k).j = (hget ls k').j → (hget gs k).j = 0)
theorem grown2_step {ls gs H H' : _} {m g : Nat → Int} {c : Nat → Nat} {k j' off' r : Nat} (hr : 0 < r) (h : Grown2 ls m g c gs H) (hk : k < ls.length) (hA : AppR H (hget gs k).j (hget gs k).off (hget gs k).len (List.replicate r (g k)) H' j' off') :
  Grown2 ls m g (fun i => if i = k then c k + r else c i) (hset gs k ⟨j', off', (hget gs k).len + r⟩) H' := by
 obtain ⟨o1, o2, o3, o4⟩ := h.own k hk
 have hkg : k < gs.length := by rw [h.len]; exact hk
 cases hA with
 | here hj0 =>
  have hj0 := hj0 (by simp; omega)
  have obj : ∀ q, llget (llset H (hget gs k).j (lput (llget H (hget gs k).j) ((hget gs k).off + (hget gs k).len) (List.replicate r (g k)))) q = if q = (hget gs k).j then lput (llget H (hget gs k).j) ((hget gs k).off + (hget gs k).len) (List.replicate r (g k)) else llget H q := fun q => llset_get _ _ _ _ o1
  have hl : ∀ q, (llget H q).length ≤ (llget (llset H (hget gs k).j (lput (llget H (hget gs k).j) ((hget gs k).off + (hget gs k).len) (List.replicate r (g k)))) q).length := fun q => by
   rw [obj]; split
   ·rename_i e; rw [e, lput_len2 _ _ _ o3]; omega
   ·exact Nat.le_refl _
  have low : ∀ t, t < (hget gs k).off + (hget gs k).len → lget (lput (llget H (hget gs k).j) ((hget gs k).off + (hget gs k).len) (List.replicate r (g k))) t = lget (llget H (hget gs k).j) t := fun t ht => by
   rw [lget_lput _ _ _ _ o3, if_neg (by omega)]
  refine ⟨by simp [hset, h.len], ?_, fun i hi => ?_, fun i hi => ?_, fun i hi => ?_, fun i i' hi hi' hii => ?_⟩
  ·rw [obj, if_neg (Ne.symm hj0)]; exact h.z
  ·rw [hget_set _ _ _ _ hkg]
   by_cases e : i = k
   ·subst e
    simp only [if_true]
    refine ⟨by simpa [llset] using o1, by omega, ?_, fun t ht => ?_⟩
    ·rw [obj, if_pos rfl, lput_len2 _ _ _ o3]; simp; omega
    ·rw [obj, if_pos rfl]
     by_cases ht' : t < (hget gs i).len
     ·rw [low _ (by omega)]; exact o4 t ht'
     ·rw [lget_lput _ _ _ _ o3, if_pos (by simp; omega), if_neg (by omega)]
      simp only [lget, List.getD, List.getElem?_replicate]
      rw [if_pos (by omega)]; rfl
   ·simp only [if_neg e]
    obtain ⟨p1, p2, p3, p4⟩ := h.own i hi
    have hd : (hget gs i).j ≠ (hget gs k).j := fun q => hj0 (by have := (h.ne k i hk hi (Ne.symm e)).1 q.symm; exact this)
    refine ⟨by simpa [llset] using p1, p2, Nat.le_trans p3 (hl _), fun t ht => ?_⟩
    rw [obj, if_neg hd]; exact p4 t ht
  ·obtain ⟨p1, p2, p3⟩ := h.old i hi
   refine ⟨by simpa [llset] using p1, Nat.le_trans p2 (hl _), fun t ht => ?_⟩
   rw [obj]
   split
   ·rename_i e
    by_cases hik : i = k
    ·subst hik
     rcases h.same i hi e.symm with q | q
     ·rw [low _ (by omega), ← e]; exact p3 t ht
     ·exact absurd q hj0
    ·exact absurd ((h.ne k i hk hi (Ne.symm hik)).2 e.symm) hj0
   ·exact p3 t ht
  ·rw [hget_set _ _ _ _ hkg]
   by_cases e : i = k
   ·subst e; simp only [if_true]; exact h.same i hi
   ·simp only [if_neg e]; exact h.same i hi
  ·rw [hget_set _ _ _ _ hkg, hget_set _ _ _ _ hkg]
   by_cases e : i = k
   ·subst e
    rw [if_pos rfl, if_neg (Ne.symm hii)]
    exact h.ne i i' hi hi' hii
   ·rw [if_neg e]
    by_cases e' : i' = k
    ·subst e'; rw [if_pos rfl]; exact h.ne i i' hi hi' hii
    ·rw [if_neg e']; exact h.ne i i' hi hi' hii
 | new =>
  have obj : ∀ q, q < H.length → llget (H ++ [lsub (llget H (hget gs k).j) (hget gs k).off (hget gs k).len ++ (List.replicate r (g k))]) q = llget H q := fun q hq => by rw [llget_app, if_pos hq]
  have top : llget (H ++ [lsub (llget H (hget gs k).j) (hget gs k).off (hget gs k).len ++ (List.replicate r (g k))]) H.length = lsub (llget H (hget gs k).j) (hget gs k).off (hget gs k).len ++ (List.replicate r (g k)) := by rw [llget_app, if_neg (by omega), if_pos rfl]
  have hsl : (lsub (llget H (hget gs k).j) (hget gs k).off (hget gs k).len).length = (hget gs k).len := lsub_len _ _ _ o3
  refine ⟨by simp [hset, h.len], ?_, fun i hi => ?_, fun i hi => ?_, fun i hi => ?_, fun i i' hi hi' hii => ?_⟩
  ·rw [obj _ (by omega)]; exact h.z
  ·rw [hget_set _ _ _ _ hkg]
   by_cases e : i = k
   ·subst e
    simp only [if_true]
    refine ⟨by simp, by omega, ?_, fun t ht => ?_⟩
    ·rw [top, List.length_append, hsl]; simp
    ·rw [top, Nat.zero_add, lget_app, hsl]
     by_cases ht' : t < (hget gs i).len
     ·rw [if_pos ht', lget_sub _ _ _ _ ht']; exact o4 t ht'
     ·rw [if_neg ht', if_neg (by omega)]
      simp only [lget, List.getD, List.getElem?_replicate]
      rw [if_pos (by omega)]; rfl
   ·simp only [if_neg e]
    obtain ⟨p1, p2, p3, p4⟩ := h.own i hi
    refine ⟨by simp; omega, p2, by rw [obj _ p1]; exact p3, fun t ht => by rw [obj _ p1]; exact p4 t ht⟩
  ·obtain ⟨p1, p2, p3⟩ := h.old i hi
   exact ⟨by simp; omega, by rw [obj _ p1]; exact p2, fun t ht => by rw [obj _ p1]; exact p3 t ht⟩
  ·rw [hget_set _ _ _ _ hkg]
   by_cases e : i = k
   ·subst e; simp only [if_true]
    intro q
    have := (h.old i hi).1
    omega
   ·simp only [if_neg e]; exact h.same i hi
  ·rw [hget_set _ _ _ _ hkg, hget_set _ _ _ _ hkg]
   by_cases e : i = k
   ·subst e
    rw [if_pos rfl, if_neg (Ne.symm hii)]
    have q1 := (h.own i' hi').1
    have q2 := (h.old i' hi').1
    exact ⟨fun q => by simp only at q; omega, fun q => by simp only at q; omega⟩
   ·rw [if_neg e]
    by_cases e' : i' = k
    ·subst e'; rw [if_pos rfl]
     have q1 := (h.own i hi).1
     exact ⟨fun q => by simp only at q; omega, (h.ne i i' hi hi' hii).2⟩
    ·rw [if_neg e']; exact h.ne i i' hi hi' hii
structure ApartOk2 (ls : List HS) (os : List (List Int)) : Prop where
 z : llget os 0 = []
 inn : ∀ k, k < ls.length → (hget ls k).j < os.length ∧ (hget ls k).off + (hget ls k).len ≤ (llget os (hget ls k).j).length ∧ (hget ls k).len ≤ 140737488355328
 ne : ∀ k k', k < ls.length → k' < ls.length → k ≠ k' → (hget ls k).j = (hget ls k').j → (hget ls k).j = 0
structure Marked2 (ls : List HS) (m : Nat → Int) (i t : Nat) (H : List (List Int)) : Prop where
 z : llget H 0 = []
 inn : ∀ k, k < ls.length → (hget ls k).j < H.length ∧ (hget ls k).off + (hget ls k).len ≤ (llget H (hget ls k).j).length
 done : ∀ k, k < ls.length → ∀ u, u < (hget ls k).len → (k < i ∨ (k = i ∧ u < t)) → lget (llget H (hget ls k).j) ((hget ls k).off + u) = m k
theorem marked2_step {ls os H : _} {m : Nat → Int} {i t : Nat} (hO : ApartOk2 ls os) (h : Marked2 ls m i t H) (hi : i < ls.length) (ht : t < (hget ls i).len) :
  Marked2 ls m i (t + 1) (llset H (hget ls i).j (lset (llget H (hget ls i).j) ((hget ls i).off + t) (m i))) := by
 obtain ⟨h1, h2⟩ := h.inn i hi
 have hj0 : (hget ls i).j ≠ 0 := fun q => by rw [q, h.z] at h2; simp at h2; omega
 have obj : ∀ q, llget (llset H (hget ls i).j (lset (llget H (hget ls i).j) ((hget ls i).off + t) (m i))) q = if q = (hget ls i).j then lset (llget H (hget ls i).j) ((hget ls i).off + t) (m i) else llget H q := fun q => llset_get _ _ _ _ h1
 refine ⟨by rw [obj, if_neg (Ne.symm hj0)]; exact h.z, fun k hk => ?_, fun k hk u hu hc => ?_⟩
 ·obtain ⟨p1, p2⟩ := h.inn k hk
  refine ⟨by simpa [llset] using p1, ?_⟩
  rw [obj]
  split
  ·rename_i e; rw [e] at p2; simpa [lset] using p2
  ·exact p2
 ·rw [obj]
  split
  ·rename_i e
   have hki : k = i := by
    refine Classical.byContradiction fun q => ?_
    exact hj0 (e ▸ hO.ne k i hk hi q e)
   subst hki
   rw [lset_get _ _ _ _ (by omega)]
   by_cases hut : u = t
   ·subst hut; rw [if_pos rfl]
   ·rw [if_neg (by omega)]
    exact h.done k hk u hu (by omega)
  ·rename_i e
   refine h.done k hk u hu ?_
   rcases hc with hc | ⟨rfl, hc⟩
   ·exact Or.inl hc
   ·exact absurd rfl e
theorem marked2_next {ls H : _} {m : Nat → Int} {i : Nat} (h : Marked2 ls m i (hget ls i).len H) : Marked2 ls m (i + 1) 0 H :=
 ⟨h.z, h.inn, fun k hk u hu hc => h.done k hk u hu (by
  rcases hc with hc | ⟨_, hc⟩
  ·by_cases e : k = i
   ·subst e; exact Or.inr ⟨rfl, hu⟩
   ·exact Or.inl (by omega)
  ·omega)⟩
theorem Grown2.congr {ls gs H : _} {m g : Nat → Int} {c c' : Nat → Nat} (h : Grown2 ls m g c gs H) (hc : ∀ k, k < ls.length → c k = c' k) : Grown2 ls m g c' gs H :=
 ⟨h.len, h.z, fun k hk => by rw [← hc k hk]; exact h.own k hk, h.old, h.same, h.ne⟩
theorem grown2_start {ls os gs H : _} {m : Nat → Int} (g : Nat → Int) (hO : ApartOk2 ls os) (h : Marked2 ls m ls.length 0 H) (hl : gs.length = ls.length) (hg : ∀ k, k < ls.length → hget gs k = hget ls k) : Grown2 ls m g (fun _ => 0) gs H := by
 refine ⟨hl, h.z, fun k hk => ?_, fun k hk => ?_, fun k hk _ => Or.inl (by rw [hg k hk]), fun k k' hk hk' hne => ?_⟩
 ·rw [hg k hk]
  exact ⟨(h.inn k hk).1, rfl, (h.inn k hk).2, fun t ht => by rw [if_pos ht]; exact h.done k hk t ht (Or.inl hk)⟩
 ·exact ⟨(h.inn k hk).1, (h.inn k hk).2, fun t ht => h.done k hk t ht (Or.inl hk)⟩
 ·rw [hg k hk, hg k' hk']
  exact ⟨fun q => hO.ne k k' hk hk' hne q, fun q => hO.ne k k' hk hk' hne q⟩
structure Holds (ls : List HS) (V : Nat → Nat → Int) (H : List (List Int)) : Prop where
 z : llget H 0 = []
 inn : ∀ k, k < ls.length → (hget ls k).j < H.length ∧ (hget ls k).off + (hget ls k).len ≤ (llget H (hget ls k).j).length
 val : ∀ k, k < ls.length → ∀ u, u < (hget ls k).len → lget (llget H (hget ls k).j) ((hget ls k).off + u) = V k u
theorem Holds.congr {ls H : _} {V V' : Nat → Nat → Int} (h : Holds ls V H) (e : ∀ k, k < ls.length → ∀ u, u < (hget ls k).len → V k u = V' k u) : Holds ls V' H :=
 ⟨h.z, h.inn, fun k hk u hu => (h.val k hk u hu).trans (e k hk u hu)⟩
theorem Marked2.holds {ls H : _} {m : Nat → Int} (h : Marked2 ls m ls.length 0 H) : Holds ls (fun k _ => m k) H := ⟨h.z, h.inn, fun k hk u hu => h.done k hk u hu (Or.inl hk)⟩
theorem Holds.con {ls H : _} {V : Nat → Nat → Int} (h : Holds ls V H) {k : Nat} (hk : k < ls.length) : hcon H (hget ls k) = tab (hget ls k).len (V k) := by
 obtain ⟨_, h2⟩ := h.inn k hk
 unfold hcon
 rw [eq_tab (l := lsub (llget H (hget ls k).j) (hget ls k).off (hget ls k).len) (lsub_len _ _ _ h2)]
 exact tab_ext fun u hu => by rw [lget_sub _ _ _ _ hu]; exact h.val k hk u hu
theorem Holds.store {ls os H : _} {V : Nat → Nat → Int} {i t : Nat} (x : Int) (hO : ApartOk2 ls os) (h : Holds ls V H) (hi : i < ls.length) (ht : t < (hget ls i).len) :
  Holds ls (fun k u => if k = i ∧ u = t then x else V k u) (llset H (hget ls i).j (lset (llget H (hget ls i).j) ((hget ls i).off + t) x)) := by
 obtain ⟨h1, h2⟩ := h.inn i hi
 have hj0 : (hget ls i).j ≠ 0 := fun q => by rw [q, h.z] at h2; simp at h2; omega
 have obj : ∀ q, llget (llset H (hget ls i).j (lset (llget H (hget ls i).j) ((hget ls i).off + t) x)) q = if q = (hget ls i).j then lset (llget H (hget ls i).j) ((hget ls i).off + t) x else llget H q := fun q => llset_get _ _ _ _ h1
 refine ⟨by rw [obj, if_neg (Ne.symm hj0)]; exact h.z, fun k hk => ?_, fun k hk u hu => ?_⟩
 ·obtain ⟨p1, p2⟩ := h.inn k hk
  refine ⟨by simpa [llset] using p1, ?_⟩
  rw [obj]
  split
  ·rename_i e; rw [e] at p2; simpa [lset] using p2
  ·exact p2
 ·rw [obj]
  split
  ·rename_i e
   have hki : k = i := by
    refine Classical.byContradiction fun q => ?_
    exact hj0 (e ▸ hO.ne k i hk hi q e)
   subst hki
   rw [lset_get _ _ _ _ (by omega)]
   by_cases hut : u = t
   ·subst hut; rw [if_pos rfl, if_pos ⟨rfl, rfl⟩]
   ·rw [if_neg (by omega), if_neg (by omega)]
    exact h.val k hk u hu
  ·rename_i e
   rw [if_neg (fun c => e (by rw [c.1]))]
   exact h.val k hk u hu
structure Tip (ls : List HS) (H : List (List Int)) (i : Nat) (d : HS) : Prop where
 j : d.j < H.length
 fit : d.off + d.len ≤ (llget H d.j).length
 own : (d.j = (hget ls i).j ∧ (hget ls i).off + (hget ls i).len ≤ d.off + d.len) ∨ ∀ k, k < ls.length → (hget ls k).j ≠ d.j
theorem Holds.grow {ls os H H' : _} {V : Nat → Nat → Int} {i j' off' : Nat} {d : HS} {v : List Int} (hO : ApartOk2 ls os) (h : Holds ls V H) (hi : i < ls.length) (hd : Tip ls H i d) (hv : v ≠ []) (hA : AppR H d.j d.off d.len v H' j' off') :
  Holds ls V H' ∧ Tip ls H' i ⟨j', off', d.len + v.length⟩ := by
 cases hA with
 | here hj0 =>
  have hj0 := hj0 hv
  have obj : ∀ q, llget (llset H d.j (lput (llget H d.j) (d.off + d.len) v)) q = if q = d.j then lput (llget H d.j) (d.off + d.len) v else llget H q := fun q => llset_get _ _ _ _ hd.j
  refine ⟨⟨by rw [obj, if_neg (Ne.symm hj0)]; exact h.z, fun k hk => ?_, fun k hk u hu => ?_⟩, ⟨by simpa [llset] using hd.j, ?_, ?_⟩⟩
  ·obtain ⟨p1, p2⟩ := h.inn k hk
   refine ⟨by simpa [llset] using p1, ?_⟩
   rw [obj]; split
   ·rename_i e; rw [lput_len2 _ _ _ hd.fit]; rw [e] at p2; omega
   ·exact p2
  ·rw [obj]; split
   ·rename_i e
    rcases hd.own with ⟨q1, q2⟩ | q
    ·have hki : k = i ∨ (hget ls k).j = 0 := by
      by_cases c : k = i
      ·exact Or.inl c
      ·exact Or.inr (hO.ne k i hk hi c (by rw [e, q1]))
     rcases hki with rfl | c
     ·rw [lget_lput _ _ _ _ hd.fit, if_neg (by omega), ← e]; exact h.val k hk u hu
     ·rw [e] at c; exact absurd c hj0
    ·exact absurd e (q k hk)
   ·exact h.val k hk u hu
  ·rw [obj, if_pos rfl, lput_len2 _ _ _ hd.fit]; simp only; omega
  ·rcases hd.own with ⟨q1, q2⟩ | q
   ·exact Or.inl ⟨q1, by simp only; omega⟩
   ·exact Or.inr q
 | new =>
  have obj : ∀ q, q < H.length → llget (H ++ [lsub (llget H d.j) d.off d.len ++ v]) q = llget H q := fun q hq => by rw [llget_app, if_pos hq]
  have hpos : 0 < H.length := by have := hd.j; omega
  refine ⟨⟨by rw [obj _ hpos]; exact h.z, fun k hk => ?_, fun k hk u hu => ?_⟩, ⟨by simp, ?_, Or.inr fun k hk e => ?_⟩⟩
  ·obtain ⟨p1, p2⟩ := h.inn k hk
   exact ⟨by simp; omega, by rw [obj _ p1]; exact p2⟩
  ·rw [obj _ (h.inn k hk).1]; exact h.val k hk u hu
  ·show 0 + (d.len + v.length) ≤ (llget (H ++ [lsub (llget H d.j) d.off d.len ++ v]) H.length).length
   rw [llget_app, if_neg (by omega), if_pos rfl, List.length_append, lsub_len _ _ _ hd.fit]; omega
  ·have q1 := (h.inn k hk).1; have q2 : (hget ls k).j = H.length := e; omega
theorem Grown2.agree {ls gs V H : _} {m g : Nat → Int} {c c' : Nat → Nat} (h : Grown2 ls m g c V H) (hl : gs.length = ls.length) (hg : ∀ k, k < ls.length → hget gs k = hget V k) (hc : ∀ k, k < ls.length → c k = c' k) : Grown2 ls m g c' gs H :=
 ⟨hl, h.z, fun k hk => by rw [hg k hk, ← hc k hk]; exact h.own k hk, h.old, fun k hk => by rw [hg k hk]; exact h.same k hk, fun k k' hk hk' => by rw [hg k hk, hg k' hk']; exact h.ne k k' hk hk'⟩
structure Same (ls : List HS) (os H : List (List Int)) : Prop where
 len : os.length ≤ H.length
 same : ∀ j, j < os.length → (∀ k, k < ls.length → (hget ls k).j ≠ j) → llget H j = llget os j
structure Frm (ls : List HS) (os : List (List Int)) (gs : List HS) (H : List (List Int)) : Prop where
 sm : Same ls os H
 src : ∀ k, k < ls.length → (hget gs k).j = (hget ls k).j ∨ os.length ≤ (hget gs k).j
structure GF (ls : List HS) (os : List (List Int)) (m g : Nat → Int) (c : Nat → Nat) (gs : List HS) (H : List (List Int)) : Prop extends Grown2 ls m g c gs H where
 fr : Frm ls os gs H
structure MF (ls : List HS) (os : List (List Int)) (m : Nat → Int) (i t : Nat) (H : List (List Int)) : Prop extends Marked2 ls m i t H where
 fr : Frm ls os ls H
theorem Frm.start (ls : List HS) (os : List (List Int)) : Frm ls os ls os := ⟨⟨Nat.le_refl _, fun _ _ _ => rfl⟩, fun _ _ => Or.inl rfl⟩
theorem Frm.agree {ls os gs gs' H : _} (h : Frm ls os gs H) (hg : ∀ k, k < ls.length → hget gs' k = hget gs k) : Frm ls os gs' H := ⟨h.sm, fun k hk => by rw [hg k hk]; exact h.src k hk⟩
theorem Same.store {ls os H : _} {i : Nat} {x : List Int} (h : Same ls os H) (hi : i < ls.length) (hj : (hget ls i).j < H.length) : Same ls os (llset H (hget ls i).j x) :=
 ⟨by simpa [llset] using h.len, fun j hj0 hne => by rw [llset_get _ _ _ _ hj, if_neg (Ne.symm (hne i hi))]; exact h.same j hj0 hne⟩
theorem Frm.step {ls os gs H H' : _} {k j' off' n : Nat} {v : List Int} (h : Frm ls os gs H) (hk : k < ls.length) (hkg : k < gs.length) (hj : (hget gs k).j < H.length) (hA : AppR H (hget gs k).j (hget gs k).off (hget gs k).len v H' j' off') :
  Frm ls os (hset gs k ⟨j', off', n⟩) H' := by
 cases hA with
 | here hj0 =>
  refine ⟨⟨by simpa [llset] using h.sm.len, fun j hj1 hne => ?_⟩, fun q hq => ?_⟩
  ·rw [llset_get _ _ _ _ hj, if_neg fun e => ?_]
   ·exact h.sm.same j hj1 hne
   ·rcases h.src k hk with c | c
    ·exact hne k hk (by rw [← c, e])
    ·omega
  ·rw [hget_set _ _ _ _ hkg]
   split
   ·rename_i e; subst e; exact h.src q hq
   ·exact h.src q hq
 | new =>
  refine ⟨⟨by have := h.sm.len; simp; omega, fun j hj1 hne => ?_⟩, fun q hq => ?_⟩
  ·have := h.sm.len
   rw [llget_app, if_pos (by omega)]; exact h.sm.same j hj1 hne
  ·rw [hget_set _ _ _ _ hkg]
   split
   ·right; exact h.sm.len
   ·exact h.src q hq
theorem gf_step {ls os gs H H' : _} {m g : Nat → Int} {c : Nat → Nat} {k j' off' r : Nat} (hr : 0 < r) (h : GF ls os m g c gs H) (hk : k < ls.length) (hA : AppR H (hget gs k).j (hget gs k).off (hget gs k).len (List.replicate r (g k)) H' j' off') :
  GF ls os m g (fun i => if i = k then c k + r else c i) (hset gs k ⟨j', off', (hget gs k).len + r⟩) H' :=
 ⟨grown2_step hr h.toGrown2 hk hA, h.fr.step hk (by rw [h.len]; exact hk) (h.own k hk).1 hA⟩
theorem GF.congr {ls os gs H : _} {m g : Nat → Int} {c c' : Nat → Nat} (h : GF ls os m g c gs H) (hc : ∀ k, k < ls.length → c k = c' k) : GF ls os m g c' gs H := ⟨h.toGrown2.congr hc, h.fr⟩
theorem GF.agree {ls os gs V H : _} {m g : Nat → Int} {c c' : Nat → Nat} (h : GF ls os m g c V H) (hl : gs.length = ls.length) (hg : ∀ k, k < ls.length → hget gs k = hget V k) (hc : ∀ k, k < ls.length → c k = c' k) : GF ls os m g c' gs H :=
 ⟨h.toGrown2.agree hl hg hc, h.fr.agree hg⟩
theorem gf_start {ls os gs H : _} {m : Nat → Int} (g : Nat → Int) (hO : ApartOk2 ls os) (h : MF ls os m ls.length 0 H) (hl : gs.length = ls.length) (hg : ∀ k, k < ls.length → hget gs k = hget ls k) : GF ls os m g (fun _ => 0) gs H :=
 ⟨grown2_start g hO h.toMarked2 hl hg, h.fr.agree hg⟩
theorem mf_step {ls os H : _} {m : Nat → Int} {i t : Nat} (hO : ApartOk2 ls os) (h : MF ls os m i t H) (hi : i < ls.length) (ht : t < (hget ls i).len) :
  MF ls os m i (t + 1) (llset H (hget ls i).j (lset (llget H (hget ls i).j) ((hget ls i).off + t) (m i))) :=
 ⟨marked2_step hO h.toMarked2 hi ht, ⟨h.fr.sm.store hi (h.inn i hi).1, h.fr.src⟩⟩
theorem mf_next {ls os H : _} {m : Nat → Int} {i : Nat} (h : MF ls os m i (hget ls i).len H) : MF ls os m (i + 1) 0 H := ⟨marked2_next h.toMarked2, h.fr⟩
theorem Same.con {ls os H : _} (h : Same ls os H) {d : HS} (hd : d.j < os.length) (hne : ∀ k, k < ls.length → (hget ls k).j ≠ d.j) : hcon H d = hcon os d := by
 unfold hcon; rw [h.same _ hd hne]
def hshift (n : Nat) (d : HS) : HS := if d.j = 0 then d else ⟨d.j - 1 + n, d.off, d.len⟩
def Col.shift (k : IntKind) (n : Nat) : Col → Col
 | .hss k' l => if k' = k then .hss k (l.map (hshift n)) else .hss k' l
 | c => c
def onlyH (k : IntKind) : List Col → Bool
 | [] => true
 | .rows _ _ :: _ => false
 | .hss k' _ :: r => k' == k && onlyH k r
 | _ :: r => onlyH k r
def Item.okH (k : IntKind) (σ : Mem) : Item → Prop
 | .vec m cs => Mem.find σ m = some (.vec cs) ∧ onlyH k cs = true
 | .nil ks => 0 < width ks
def Item.shift (k : IntKind) (n : Nat) : Item → List Col
 | .vec _ cs => cs.map (Col.shift k n)
 | .nil ks => (ks.map Kd.nil).map fun c => match c with
  | .rows k' [] => if k' = k then .hss k [] else c
  | c => c
def insAllC (d : Nat) : Nat → List (List Col) → Mem → Mem
 | _, [], σ => σ
 | k, it :: r, σ => insAllC d (k + 1) r (Mem.ins (d + 10000 * k) (.vec it) σ)
def ResH (d news : Nat) (σ : Mem) (k : IntKind) (os : List (List Int)) (K : AV → Mem → Prop) (av : AV) (σ' : Mem) : Prop :=
 ∃ its av' os', its.length ≤ news ∧ Mem.heap σ' k = some os' ∧ (∀ it ∈ its, it.okH k σ') ∧ (its.map Item.name).Pairwise (fun a b => a = none ∨ a ≠ b) ∧ ResV its d av av' ∧ K av' (insAllC d 0 (its.map (Item.shift k os.length)) (σ.put (hname k) (.heap k (os ++ os'.tail))))
def Loc.join (L M : Loc) : Loc := { L with el := fun c i => if i < L.len then L.el c i else if c = 1 ∧ i = 0 then ⟨none, L.n + (M.n - 1), 0⟩ else if c = 0 ∧ L.n ≤ i then M.el 0 (i - L.n + 1) else L.el c i }
theorem join_n {L M : Loc} (h : L.len = 0) : (L.join M).n = L.n + (M.n - 1) := by
 show (if 0 < L.len then L.el 1 0 else if (1 : Nat) = 1 ∧ 0 = 0 then (⟨none, L.n + (M.n - 1), 0⟩ : Elt) else _).len = _
 rw [if_neg (by omega), if_pos ⟨rfl, rfl⟩]
theorem join_old {L M : Loc} (h : L.len = 0) {i : Nat} (hi : i < L.n) : (L.join M).el 0 i = L.el 0 i := by
 show (if i < L.len then L.el 0 i else if (0 : Nat) = 1 ∧ i = 0 then _ else if (0 : Nat) = 0 ∧ L.n ≤ i then _ else L.el 0 i) = _
 rw [if_neg (by omega), if_neg (by omega), if_neg (by omega)]
theorem join_new {L M : Loc} (h : L.len = 0) {i : Nat} (hi : L.n ≤ i) : (L.join M).el 0 i = M.el 0 (i - L.n + 1) := by
 show (if i < L.len then L.el 0 i else if (0 : Nat) = 1 ∧ i = 0 then _ else if (0 : Nat) = 0 ∧ L.n ≤ i then M.el 0 (i - L.n + 1) else L.el 0 i) = _
 rw [if_neg (by omega), if_neg (by omega), if_pos ⟨rfl, hi⟩]
theorem join_ext {L M : Loc} (h : L.len = 0) : HExt L (L.join M) :=
 ⟨rfl, rfl, rfl, rfl, rfl, fun c i hi => by omega, by rw [join_n h]; omega, fun j hj => by rw [join_old h hj]; exact ⟨rfl, rfl, Nat.le_refl _⟩⟩
theorem join_heap {w : World} {L M : Loc} {k : IntKind} {os ps : List (List Int)} (h : HeapRep w L k os) (g : HeapRep w M k ps) (ha : ∀ q, HFoot L q → ¬ HFoot M q) : HeapRep w (L.join M) k (os ++ ps.tail) := by
 have h0 := h.len0
 have hn := h.n
 have gn := g.n
 have gp := g.pos
 have hp := h.pos
 obtain ⟨p, ps', rfl⟩ : ∃ p ps', ps = p :: ps' := by
  cases ps with
  | nil => simp at gp
  | cons p ps' => exact ⟨p, ps', rfl⟩
 simp only [List.length_cons] at gn
 refine ⟨h0, by rw [join_n h0, hn, gn]; simp, by simp; omega, by rw [join_old h0 (by omega)]; exact h.zero, fun j x hj => ?_, fun i j hi hj hij hci hcj => ?_⟩
 ·by_cases hjn : j < L.n
  ·rw [join_old h0 hjn]
   rw [List.getElem?_append_left (by omega)] at hj
   exact h.obj j x hj
  ·rw [join_new h0 (by omega)]
   rw [List.getElem?_append_right (by omega)] at hj
   refine g.obj _ x ?_
   rw [show j - L.n + 1 = (j - os.length) + 1 by omega]
   simpa using hj
 ·simp only [List.length_append, List.tail_cons] at hi hj
  have old : ∀ i, i < L.n → (L.el 0 i).cap ≠ 0 → HFoot L (L.el 0 i).loc.1 := fun i hi hc => ⟨i, hi, hc, rfl⟩
  have new : ∀ i, L.n ≤ i → i < os.length + ps'.length → (M.el 0 (i - L.n + 1)).cap ≠ 0 → HFoot M (M.el 0 (i - L.n + 1)).loc.1 := fun i hi hlt hc => ⟨i - L.n + 1, by omega, hc, rfl⟩
  by_cases hil : i < L.n
  ·rw [join_old h0 hil] at hci ⊢
   by_cases hjl : j < L.n
   ·rw [join_old h0 hjl] at hcj ⊢
    exact h.apart i j (by omega) (by omega) hij hci hcj
   ·rw [join_new h0 (by omega)] at hcj ⊢
    intro q
    have := old i hil hci
    rw [q] at this
    exact ha _ this (new j (by omega) hj hcj)
  ·rw [join_new h0 (by omega)] at hci ⊢
   by_cases hjl : j < L.n
   ·rw [join_old h0 hjl] at hcj ⊢
    intro q
    have := old j hjl hcj
    rw [← q] at this
    exact ha _ this (new i (by omega) hi hci)
   ·rw [join_new h0 (by omega)] at hcj ⊢
    exact g.apart _ _ (by simp only [List.length_cons]; omega) (by simp only [List.length_cons]; omega) (by omega) hci hcj
theorem hfoot_join {L M : Loc} {q : Nat} (h : L.len = 0) (hq : HFoot (L.join M) q) : HFoot L q ∨ HFoot M q := by
 obtain ⟨j, h1, h2, rfl⟩ := hq
 rw [join_n h] at h1
 by_cases hj : j < L.n
 ·rw [join_old h hj] at h2 ⊢; exact Or.inl ⟨j, hj, h2, rfl⟩
 ·rw [join_new h (by omega)] at h2 ⊢; exact Or.inr ⟨_, by omega, h2, rfl⟩
theorem hs_join {ρ ρ' : Rho} {L M : Loc} {k : IntKind} {d : HS} {v : Value} (h0 : L.len = 0) (hz : (L.el 0 0).cap = 0) (hp : 0 < L.n) (hzM : (M.el 0 0).cap = 0) (h : CRep ρ (.hs k d.j d.off d.len) v) (e : ρ (hname k) = M) (e' : ρ' (hname k) = L.join M) :
  CRep ρ' (.hs k (hshift L.n d).j (hshift L.n d).off (hshift L.n d).len) v := by
 obtain ⟨A, cap, rfl, h2, h3, hj, h4, h6, h5⟩ := h
 rw [e] at h3 hj h4 h6 h5
 unfold hshift
 by_cases hd : d.j = 0
 ·rw [if_pos hd]
  rw [hd, hzM] at h6
  have hc : cap = 0 := by omega
  have ho : d.off = 0 := by omega
  have hl : d.len = 0 := by omega
  refine ⟨A, cap, rfl, h2, by omega, by rw [e', hd, join_n h0]; omega, Or.inl hc, ?_, ?_⟩
  ·rw [e', hd, join_old h0 hp, hz]; omega
  ·rw [e', hd, join_old h0 hp]; exact fun q => absurd hz q
 ·rw [if_neg hd]
  have hi : L.n ≤ d.j - 1 + L.n := by omega
  have hb : d.j - 1 + L.n - L.n + 1 = d.j := by omega
  refine ⟨A, cap, rfl, h2, ?_, ?_, ?_, ?_, ?_⟩
  ·rw [e', join_new h0 hi, hb]; exact h3
  ·rw [e', join_n h0]; show d.j - 1 + L.n < _; omega
  ·rw [e', join_new h0 hi, hb]; exact h4
  ·rw [e', join_new h0 hi, hb]; exact h6
  ·rw [e', join_new h0 hi, hb]; exact h5
theorem shift_kds (k : IntKind) (n : Nat) (cs : List Col) : kdsOf (cs.map (Col.shift k n)) = kdsOf cs := by
 induction cs with
 | nil => rfl
 | cons c r ih =>
  simp only [kdsOf, List.map_cons, List.cons.injEq] at ih ⊢
  refine ⟨?_, ih⟩
  cases c <;> simp only [Col.shift] <;> try rfl
  split
  ·rename_i e; subst e; rfl
  ·rfl
theorem shift_val (k : IntKind) (n : Nat) (L : Loc) (c : Col) (a i j : Nat) : colVal L a (c.shift k n) i j = colVal L a c i j := by
 cases c <;> simp only [Col.shift] <;> try rfl
 split <;> rfl
theorem shift_row (k : IntKind) (n : Nat) (L : Loc) : ∀ (cs : List Col) (c i t : Nat), rowVal L (cs.map (Col.shift k n)) c i t = rowVal L cs c i t
 | [], _, _, _ => rfl
 | c :: r, a, i, t => by
  have e : (c.shift k n).kd = c.kd := by
   have := shift_kds k n [c]
   simpa [kdsOf] using this
  simp only [List.map_cons, rowVal, e, shift_val, shift_row k n L r]
theorem onlyH_get {k : IntKind} : ∀ {cs : List Col}, onlyH k cs = true → ∀ (c : Nat) x, cs[c]? = some x → (∀ k' ll, x ≠ .rows k' ll) ∧ ∀ k' l, x = .hss k' l → k' = k
 | [], _, c, x, h => by simp at h
 | y :: r, h, c, x, hx => by
  cases c with
  | zero =>
   simp at hx; subst hx
   cases y <;> simp_all [onlyH]
  | succ c =>
   refine onlyH_get (cs := r) ?_ c x (by simpa using hx)
   cases y <;> simp_all [onlyH]
theorem shift_rep {w : World} {L : Loc} {k : IntKind} {n : Nat} {cs : List Col} (ho : onlyH k cs = true) (h : VRep w L cs) : VRep w L (cs.map (Col.shift k n)) := by
 have hw : cwidth (cs.map (Col.shift k n)) = cwidth cs := by simp only [cwidth, shift_kds]
 refine ⟨by simpa using h.ne, by rw [hw]; exact h.wid, fun col hcol => ?_, h.cap, h.adr, fun i hi t ht => ?_, fun c kk ll hc i l hl => ?_⟩
 ·obtain ⟨c, hc, rfl⟩ := List.mem_map.1 hcol
  have := h.ok c hc
  cases c <;> simp only [Col.shift] <;> try exact this
  split
  ·simpa [Col.ok] using this
  ·exact this
 ·rw [hw] at ht ⊢
  rw [shift_row]; exact h.cells i hi t ht
 ·simp only [List.getElem?_map, Option.map_eq_some_iff] at hc
  obtain ⟨x, hx, he⟩ := hc
  have := (onlyH_get ho c x hx).1
  cases x <;> simp only [Col.shift] at he <;> first | (cases he; exact absurd rfl (this kk ll)) | (cases he) | skip
  split at he <;> cases he
structure ItemIn (ρ1 : Rho) (ρ : Rho) (σ : Mem) (n0 : Nat) (w : World) (it : Item) (cols : List Col) (L : Loc) : Prop where
 rep : VRep w L cols
 write : Writable w L (cwidth cols)
 inner : ∀ q, ¬ Inner L cols q
 refs : ∀ m, cols.any (Col.refs m) = true → isHeap m = true
 lnk : Lnk ρ1 L cols
 val : ∀ v, CRep ρ it.ac v → v = .slice L.a L.len L.cap
 own : L.cap ≠ 0 → n0 ≤ L.1 ∧ ∃ m b, it.name = some m ∧ Mem.find σ m = some b ∧ Out ρ m b L.1
theorem insAllC_sound {E : Env} {a : Act} {w : World} {ρ1 ρi : Rho} {σi : Mem} {n0 d : Nat} (f : Item → List Col) (Ls : Nat → Loc) : ∀ {its : List Item} {k : Nat} {ρ : Rho} {σ : Mem}, Rep E ρ [] σ a w → (∀ n, isHeap n = true → ρ n = ρ1 n) → (∀ i it, its[i]? = some it → ItemIn ρ1 ρi σi n0 w it (f it) (Ls (k + i))) → Sep ρi σi → E.w0.heap.size ≤ n0 →
  (its.map Item.name).Pairwise (fun a b => a = none ∨ a ≠ b) → (∀ i, i < its.length → freshB (d + 10000 * (k + i)) [] σ = true) → (∀ m b q, Mem.find σ m = some b → Foot ρ m b q → ∀ (i : Nat) it, its[i]? = some it → (Ls (k + i)).cap ≠ 0 → q ≠ (Ls (k + i)).1) →
  ∃ ρ', Rep E ρ' [] (insAllC d k (its.map f) σ) a w ∧ (∀ n, (∀ i, i < its.length → n ≠ d + 10000 * (k + i)) → ρ' n = ρ n) ∧ (∀ i, i < its.length → ρ' (d + 10000 * (k + i)) = Ls (k + i)) ∧ ∀ m b, Mem.find σ m = some b → Mem.find (insAllC d k (its.map f) σ) m = some b
 | [], k, ρ, σ, h, _, _, _, _, _, _, _ => ⟨ρ, h, fun _ _ => rfl, fun i hi => absurd hi (Nat.not_lt_zero _), fun _ _ q => q⟩
 | it :: its, k, ρ, σ, h, h1, hat, hs, hn0, hpw, hfr, hdis => by
  have h0 := hat 0 it rfl
  rw [Nat.add_zero] at h0
  have hd := hfr 0 (by simp)
  rw [Nat.add_zero] at hd
  have hdis0 := fun m b q hb hf => hdis m b q hb hf 0 it rfl
  obtain ⟨d1, _, d3⟩ := freshB_parts hd
  have hup : ∀ n, isHeap n = true → upd ρ (d + 10000 * k) (Ls k) n = ρ1 n := fun n hn => by
   rw [upd_ne (by have := isHeap_le hn; omega)]; exact h1 n hn
  have step := (add_sound (L := Ls k) (b := .vec (f it)) h hd h.keep (fun _ _ _ _ _ => rfl) ⟨by rw [upd_eq]; exact h0.rep, by rw [upd_eq]; exact h0.write, by rw [upd_eq]; exact h0.lnk.agree fun m hm => .of_eq (hup m (h0.refs m hm))⟩ (fun q hq => by
   simp only [Out, upd_eq] at hq
   obtain ⟨hc, rfl⟩ := hq
   exact ⟨Or.inl (Nat.le_trans hn0 (h0.own hc).1), fun m c hm hF => hdis0 m c _ hm hF (by rw [Nat.add_zero]; exact hc) (by rw [Nat.add_zero]), fun hI => by simp only [Inn, upd_eq] at hI; exact h0.inner _ hI⟩) (fun q hq => by
   simp only [Foot, upd_eq] at hq
   rcases hq with ⟨hc, rfl⟩ | hq
   ·exact fun m c hm hO => hdis0 m c _ hm hO.foot (by rw [Nat.add_zero]; exact hc) (by rw [Nat.add_zero])
   ·exact absurd hq (h0.inner _))).find_eq (find_ins d3)
  obtain ⟨q1, q2⟩ := List.pairwise_cons.1 hpw
  obtain ⟨ρ', r1, r2, r3, r4⟩ := insAllC_sound (ρ1 := ρ1) (ρi := ρi) (σi := σi) (n0 := n0) (d := d) f Ls (its := its) (k := k + 1) step hup (fun i it' hi => by have := hat (i + 1) it' (by simpa using hi); rw [show k + 1 + i = k + (i + 1) by omega]; exact this) hs hn0 q2 (fun i hi => by
   have := hfr (i + 1) (by simp only [List.length_cons]; omega)
   obtain ⟨f1, f2, f3⟩ := freshB_parts this
   rw [show k + 1 + i = k + (i + 1) by omega]
   simp only [freshB, f2, Bool.and_eq_true, decide_eq_true_eq, Bool.not_eq_true', and_true]
   refine ⟨f1, ?_⟩
   have e : ∀ (σ : Mem) (dd : Nat) (b : Blk) (x : Nat), memRefs x (Mem.ins dd b σ) = (dd == x || b.refs x || memRefs x σ) := by
    intro σ dd b x
    induction σ with
    | nil => simp [Mem.ins, memRefs]
    | cons p r ih =>
     obtain ⟨m, y⟩ := p
     simp only [Mem.ins]
     split
     ·simp only [memRefs, List.any_cons] at ih ⊢
      rw [ih]
      cases (m == x || y.refs x) <;> cases (dd == x || b.refs x) <;> simp
     ·simp [memRefs]
   rw [e, f3]
   have e2 : Blk.refs (d + 10000 * (k + (i + 1))) (.vec (f it)) = false := by
    cases hq : Blk.refs (d + 10000 * (k + (i + 1))) (.vec (f it)) with
    | false => rfl
    | true => have := isHeap_le (h0.refs _ hq); omega
   rw [e2]
   simp only [Bool.or_false, beq_eq_false_iff_ne]
   omega) (fun m b q hb hf i it' hi hc => by
   rw [show k + 1 + i = k + (i + 1) by omega] at hc ⊢
   rw [find_ins d3] at hb
   simp only [Mem.find] at hb
   split at hb
   ·rename_i e
    cases hb
    subst e
    simp only [Foot, upd_eq] at hf
    rcases hf with ⟨hc0, rfl⟩ | hf
    ·intro eq
     have hi' := hat (i + 1) it' (by simpa using hi)
     obtain ⟨_, m1, b1, n1, f1, o1⟩ := h0.own hc0
     obtain ⟨_, m2, b2, n2, f2, o2⟩ := hi'.own hc
     have hne : m1 ≠ m2 := fun e => by
      have := q1 it'.name (List.mem_map.2 ⟨it', List.mem_of_getElem? hi, rfl⟩)
      rw [n1, n2, e] at this
      rcases this with q | q
      ·cases q
      ·exact q rfl
     rw [← eq] at o2
     exact hs.1 m1 m2 b1 b2 _ f1 f2 hne o1 o2.foot
    ·exact absurd hf (h0.inner _)
   ·rename_i hne
    have hf' : Foot ρ m b q := (Foot.agree (upd_ne (fun e => hne e.symm))).1 hf
    exact hdis m b q hb hf' (i + 1) it' (by simpa using hi) hc)
  refine ⟨ρ', r1, fun n hn => ?_, fun i hi => ?_, fun m b hb => r4 m b (ins_old hd m b hb)⟩
  ·rw [r2 n (fun i hi => by have := hn (i + 1) (by simp only [List.length_cons]; omega); rw [show k + 1 + i = k + (i + 1) by omega]; exact this)]
   exact upd_ne (by have := hn 0 (by simp); rw [Nat.add_zero] at this; exact this)
  ·cases i with
   | zero =>
    rw [Nat.add_zero, r2 _ (fun i hi => by omega)]
    exact upd_eq _ _ _
   | succ i =>
    have := r3 i (by simp only [List.length_cons] at hi; omega)
    rw [show k + 1 + i = k + (i + 1) by omega] at this
    exact this
theorem memRefs_put {σ : Mem} {n d : Nat} {b b' : Blk} (h : memRefs d σ = false) (hb : b'.refs d = false) : memRefs d (σ.put n b') = false := by
 induction σ with
 | nil => rfl
 | cons p r ih =>
  obtain ⟨m, x⟩ := p
  simp only [memRefs, List.any_cons, Bool.or_eq_false_iff] at h ih ⊢
  simp only [Mem.put]
  split
  ·simp only [List.any_cons, Bool.or_eq_false_iff]; exact ⟨⟨h.1.1, hb⟩, h.2⟩
  ·simp only [List.any_cons, Bool.or_eq_false_iff]; exact ⟨h.1, ih h.2⟩
section
variable {P : Program} {Γ : Gam} {D : Hints}
theorem Good.priv (hm : P.follows .mixedOrders = true) (hΓ : GoodG P Γ) {f : FuncId} {fn : Func} (hf : P.funcs[f]? = some fn) (hb : fn.body.isSome = true) {s : Spec} (hs : s.mods = true)
  (hsem : ∀ d args σ (K : AV → Mem → Prop), s.sem d args σ K → ∃ k os cargs τ τ', Mem.heap σ k = some os ∧ Canon σ 0 args cargs τ ∧ memRefs (hname k) τ = false ∧ (∀ x ∈ cargs, x.refs (hname k) = false) ∧ args.length ≤ 1000 ∧ (∀ n, Mem.find τ' n = Mem.find ((hname k, .heap k [[]]) :: τ) n) ∧ ∃ n, callsx P Γ D fn n cargs τ' (ResH d s.news σ k os K)) : Good P f s := by
 refine ⟨fun d args σ K h ρ w vals hg hmem hsep hl hv hnew => ?_⟩
 obtain ⟨k, os, cargs, τ, τ', ho, hcan, hτr, hcr, hlen, hτ, n, hc⟩ := hsem d args σ K h
 obtain ⟨h1, Ls, h2⟩ := canon_sound hmem hsep hcan vals.toList (by simpa using hl) (fun i x v hx hu => hv i x v hx (by simpa using hu))
 generalize hρ0 : rhoC ρ (fun n => Ls (n % 1000) (n / 1000)) = ρ0
 have hρc : ∀ i f, 0 ≤ i → i < 0 + args.length → f < 100 → ρ0 (200000 + (i + 1000 * f)) = Ls i f := fun i f _ hi hf => by
  rw [← hρ0, rhoC_arg (by omega)]
  show Ls ((i + 1000 * f) % 1000) ((i + 1000 * f) / 1000) = Ls i f
  rw [show (i + 1000 * f) % 1000 = i by omega, show (i + 1000 * f) / 1000 = f by omega]
 have hgg : ∀ g, ρ0 (gname g) = ρ (gname g) := fun g => by rw [← hρ0]; exact rhoC_glob
 obtain ⟨g1, g2⟩ := h2 ρ0 hρc hgg (fun n hn => by rw [← hρ0]; exact rhoC_heap hn)
 have hhp := isHeap_hname k
 have hble := isHeap_le hhp
 generalize hρ1 : upd ρ0 (hname k) heap0 = ρc
 have hck : ρc (hname k) = heap0 := by rw [← hρ1]; exact upd_eq _ _ _
 have hcn : ∀ n, n ≠ hname k → ρc n = ρ0 n := fun n hn => by rw [← hρ1]; exact upd_ne hn
 have hgc : Glob ρc := fun g => by rw [hcn _ (by simp only [gname]; omega), hgg]; exact hg g
 have unf : ∀ {m b}, Mem.find τ' m = some b → (m = hname k ∧ b = .heap k [[]]) ∨ (m ≠ hname k ∧ Mem.find τ m = some b) := by
  intro m b hb
  rw [hτ] at hb
  simp only [Mem.find] at hb
  split at hb
  ·rename_i e; cases hb; exact Or.inl ⟨e.symm, rfl⟩
  ·rename_i e; exact Or.inr ⟨Ne.symm e, hb⟩
 have hno := canon_views hcan ρc
 have hout : ∀ m b q, Mem.find τ' m = some b → ¬ Out ρc m b q := by
  intro m b q hb hO
  rcases unf hb with ⟨rfl, rfl⟩ | ⟨_, hb⟩
  ·obtain ⟨j, h1, h2, _⟩ := hO
   rw [hck] at h1 h2
   exact h2 rfl
  ·exact hno m b q hb hO
 have hmemc : MemRep ρc τ' w := by
  intro m b hb
  rcases unf hb with ⟨rfl, rfl⟩ | ⟨hne, hb⟩
  ·exact ⟨hhp, by rw [hck]; exact heap0_rep w k⟩
  ·refine (g2 m b hb).agree (hcn m hne) fun x hx => .of_eq (hcn x fun e => ?_)
   subst e
   have := (memRefs_out hτr hb).2
   rw [this] at hx; cases hx
 have hsepc : Sep ρc τ' := ⟨fun n m b c k hn _ _ hO => absurd hO (hout n b k hn), fun n b k hn hO => absurd hO (hout n b k hn)⟩
 refine (callsx_sound hm hΓ hf hb hc (ex := fun _ => False) hgc (by simpa using h1) (fun i y v hy hu => (g1 i y v hy (by simpa using hu)).agree fun x hx => .of_eq (hcn x fun e => by
  subst e
  rw [hcr y (List.mem_of_getElem? hy)] at hx; cases hx)) hmemc hsepc (fun n b k hn hO => absurd hO (hout n b k hn))).mono ?_
 rintro e w' ⟨v, av', σ'', ρ'', rfl, ⟨its, av, os', hlen', hos', hok, hpw, hres, hK⟩, hsr, hmem'', hsep'', _, _, hown'', hk⟩
 have hsame : ∀ i, i < w.heap.size → w'.heap[i]? = w.heap[i]? := fun i hi => hk.block i hi (fun q => q)
 have hk' : Keeps (OwnAt ρ σ) w w' := ⟨hk.os, hk.tape, hk.output, hk.size, fun k hk' _ => hsame k hk'⟩
 let E : Env := ⟨w, ρ, OwnAt ρ σ, hg⟩
 let a : Act := { tmps := #[], defers := [] }
 have hmem' : MemRep ρ σ w' := hmem.keeps (fun n b k hb hk => hsame _ (in_range (hmem n b hb) hk))
 have hR : Rep E ρ [] σ a w' := ⟨⟨rfl, fun t v ht => by simp [a] at ht⟩, rfl, hmem', hsep, fun _ _ _ => rfl, fun _ _ => .refl _, fun n b k hn hO => Or.inr ⟨n, b, hn, hO⟩, hk'⟩
 have hfd := heap_find ho
 have hfd'' := heap_find hos'
 obtain ⟨_, hH⟩ := hmem' _ _ hfd
 obtain ⟨_, hP⟩ := hmem'' _ _ hfd''
 have hnew' : ∀ m b q, Mem.find σ'' m = some b → Out ρ'' m b q → w.heap.size ≤ q := fun m b q hm hO => by
  rcases hown'' m b q hm hO with q | q
  ·exact q
  ·exact q.elim
 have hPn : ∀ q, HFoot (ρ'' (hname k)) q → w.heap.size ≤ q := fun q hq => hnew' _ _ q hfd'' hq
 have hfootlt : ∀ m c q, Mem.find σ m = some c → Foot ρ m c q → q < w.heap.size := fun m c q hm hF => in_range (hmem m c hm) hF
 have h0 := hH.len0
 have grown := heap_grow (w' := w') (L' := (ρ (hname k)).join (ρ'' (hname k))) hR hhp hfd (join_ext h0) (join_heap hH hP fun q hq hq' => by
   have := hfootlt _ _ q hfd hq
   have := hPn q hq'
   omega) hk' (fun _ _ _ _ _ _ => rfl) (fun q hq => by
  rcases hfoot_join h0 hq with h | h
  ·exact Or.inl h
  ·have hge := hPn q h
   exact Or.inr ⟨Or.inl hge, fun m c hm _ hF => by have := hfootlt m c q hm hF; omega⟩)
 generalize hρg : upd ρ (hname k) ((ρ (hname k)).join (ρ'' (hname k))) = ρg at grown
 have hgk : ρg (hname k) = (ρ (hname k)).join (ρ'' (hname k)) := by rw [← hρg]; exact upd_eq _ _ _
 have hgn : ∀ n, n ≠ hname k → ρg n = ρ n := fun n hn => by rw [← hρg]; exact upd_ne hn
 have hn1 : (ρ (hname k)).n = os.length := hH.n
 have hat : ∀ it ∈ its, ∃ L, ItemIn ρg ρ'' σ'' w.heap.size w' it (it.shift k os.length) L := fun it hi => by
  have hok := hok it hi
  cases it with
  | vec m cs =>
   obtain ⟨q1, q2⟩ := hok
   obtain ⟨p1, p2, p3⟩ := hmem'' m _ q1
   have hw : cwidth (cs.map (Col.shift k os.length)) = cwidth cs := by simp only [cwidth, shift_kds]
   refine ⟨ρ'' m, shift_rep q2 p1, by show Writable w' (ρ'' m) (cwidth (cs.map _)); rw [hw]; exact p2, fun q => ?_, fun x hx => ?_, fun c kk l hcc i dd hd => ?_, fun u hu => hu, fun q => ⟨hnew' m _ _ q1 ⟨q, rfl⟩, m, _, rfl, q1, q, rfl⟩⟩
   ·rintro ⟨c, kk, ll, i, l, ad, hcc, _⟩
    simp only [Item.shift, List.getElem?_map, Option.map_eq_some_iff] at hcc
    obtain ⟨x, hx, he⟩ := hcc
    have := (onlyH_get q2 c x hx).1
    cases x <;> simp only [Col.shift] at he <;> first | (cases he; exact absurd rfl (this kk ll)) | (cases he) | skip
    split at he <;> cases he
   ·obtain ⟨c, hc1, hc2⟩ := List.any_eq_true.1 hx
    cases c <;> simp only [Col.refs] at hc2 <;> first | (cases hc2) | skip
    have := beq_iff_eq.1 hc2
    rw [← this]; exact isHeap_hname _
   ·simp only [Item.shift, List.getElem?_map, Option.map_eq_some_iff] at hcc
    obtain ⟨x, hx, he⟩ := hcc
    have hkk := (onlyH_get q2 c x hx).2
    cases x <;> simp only [Col.shift] at he <;> first | (cases he) | skip
    rename_i k2 l2
    have := hkk k2 l2 rfl
    subst this
    rw [if_pos rfl] at he
    cases he
    simp only [List.getElem?_map, Option.map_eq_some_iff] at hd
    obtain ⟨d0, hd0, rfl⟩ := hd
    have := hs_join h0 hH.zero (by rw [hn1]; exact hH.pos) hP.zero (p3 c _ l2 hx i d0 hd0) rfl hgk
    rw [hn1] at this
    exact this
  | nil ks =>
   obtain ⟨p1, p2⟩ := nil_rep (w := w') hok
   have hget : ∀ (c : Nat) x, (Item.shift k os.length (.nil ks))[c]? = some x → ∃ kd, ks[c]? = some kd ∧ (x = kd.nil ∨ (kd = .rows k ∧ x = .hss k [])) := fun c x hx => by
    simp only [Item.shift, List.map_map, List.getElem?_map, Option.map_eq_some_iff] at hx
    obtain ⟨kd, h1, h2⟩ := hx
    refine ⟨kd, h1, ?_⟩
    cases kd <;> simp only [Function.comp, Kd.nil] at h2 ⊢ <;> try exact Or.inl h2.symm
    split at h2
    ·rename_i e; subst e; exact Or.inr ⟨rfl, h2.symm⟩
    ·exact Or.inl h2.symm
   have hlen2 : (Item.shift k os.length (.nil ks)).length = ks.length := by simp [Item.shift]
   have hkd : kdsOf (Item.shift k os.length (.nil ks)) = ks := by
    refine List.ext_getElem? fun c => ?_
    simp only [kdsOf, List.getElem?_map]
    cases hx : (Item.shift k os.length (.nil ks))[c]? with
    | none =>
     rw [List.getElem?_eq_none_iff] at hx
     rw [List.getElem?_eq_none (by omega)]; rfl
    | some x =>
     obtain ⟨kd, q1, q2⟩ := hget c x hx
     rw [q1]
     rcases q2 with rfl | ⟨rfl, rfl⟩
     ·cases kd <;> rfl
     ·rfl
   have hwd : cwidth (Item.shift k os.length (.nil ks)) = width ks := by rw [cwidth, hkd]
   refine ⟨loc0, ⟨fun q => ?_, by rw [hwd]; exact hok, fun col hcol => ?_, Nat.le_refl _, fun q => absurd rfl q, fun i hi => absurd hi (Nat.not_lt_zero _), fun c kk ll hcc i l hl => ?_⟩, fun q => absurd rfl q, fun q => ?_, fun x hx => ?_, fun c kk l hcc i dd hd => ?_, fun u hu => hu.1, fun q => absurd rfl q⟩
   ·rw [q] at hkd
    simp only [kdsOf, List.map_nil] at hkd
    have hok : 0 < width ks := hok
    rw [← hkd] at hok; exact absurd hok (by decide)
   ·obtain ⟨c, hc⟩ := List.mem_iff_getElem?.1 hcol
    obtain ⟨kd, q1, q2⟩ := hget c col hc
    rcases q2 with rfl | ⟨rfl, rfl⟩
    ·cases kd <;> simp [Kd.nil, Col.ok, loc0]
    ·simp [Col.ok, loc0]
   ·obtain ⟨kd, q1, q2⟩ := hget c _ hcc
    rcases q2 with q2 | ⟨_, q2⟩
    ·cases kd <;> simp [Kd.nil] at q2
     rw [q2.2] at hl; simp at hl
    ·cases q2
   ·rintro ⟨c, kk, ll, i, l, ad, hcc, hl, _⟩
    obtain ⟨kd, q1, q2⟩ := hget c _ hcc
    rcases q2 with q2 | ⟨_, q2⟩
    ·cases kd <;> simp [Kd.nil] at q2
     rw [q2.2] at hl; simp at hl
    ·cases q2
   ·obtain ⟨c, hc1, hc2⟩ := List.any_eq_true.1 hx
    cases c <;> simp only [Col.refs] at hc2 <;> first | (cases hc2) | skip
    have := beq_iff_eq.1 hc2
    rw [← this]; exact isHeap_hname _
   ·obtain ⟨kd, q1, q2⟩ := hget c _ hcc
    rcases q2 with q2 | ⟨_, q2⟩
    ·cases kd <;> simp [Kd.nil] at q2
    ·cases q2
     simp at hd
 let Ms : Nat → Loc := fun i => if hi : i < its.length then Classical.choose (hat its[i] (List.getElem_mem hi)) else loc0
 have hMs : ∀ i it, its[i]? = some it → ItemIn ρg ρ'' σ'' w.heap.size w' it (it.shift k os.length) (Ms i) := fun i it hi => by
  obtain ⟨hlt, rfl⟩ := List.getElem?_eq_some_iff.1 hi
  show ItemIn ρg ρ'' σ'' w.heap.size w' its[i] _ (if hi : i < its.length then Classical.choose (hat its[i] (List.getElem_mem hi)) else loc0)
  rw [dif_pos hlt]
  exact Classical.choose_spec (hat its[i] (List.getElem_mem hlt))
 have hitem : ∀ (i : Nat) it, its[i]? = some it → (Ms i).cap ≠ 0 → ∀ q, HFoot (ρ'' (hname k)) q → q ≠ (Ms i).1 := fun i it hi hc q hq e => by
  obtain ⟨_, m, b, q1, q2, q3⟩ := (hMs i it hi).own hc
  have hok := hok it (List.mem_of_getElem? hi)
  cases it with
  | nil ks => cases q1
  | vec m' cs =>
   simp only [Item.name, Option.some.injEq] at q1
   subst q1
   rw [hok.1] at q2; cases q2
   refine hsep''.1 (hname k) m' _ _ q hfd'' hok.1 (fun e2 => ?_) hq (by rw [e]; exact q3.foot)
   have q4 : Mem.find σ'' m' = some (.vec cs) := hok.1
   rw [← e2, hfd''] at q4
   cases q4
 obtain ⟨ρ', r1, r2, r3, r4⟩ := insAllC_sound (d := d) (k := 0) (Item.shift k os.length) Ms grown (fun _ _ => rfl) (fun i it hi => by rw [Nat.zero_add]; exact hMs i it hi) hsep'' (Nat.le_refl _) hpw (fun i hi => by
  obtain ⟨q1, q2⟩ := hnew i (by omega)
  rw [Nat.zero_add]
  simp only [freshB, frRefs, List.any_nil, Bool.not_false, Bool.and_true, Bool.and_eq_true, decide_eq_true_eq, Bool.not_eq_true']
  exact ⟨q1, memRefs_put (b := .heap k os) q2 rfl⟩) (fun m b q hb hF i it hi hc => by
  rw [Nat.zero_add] at hc ⊢
  have hge := ((hMs i it hi).own hc).1
  rw [find_put] at hb
  split at hb
  ·rename_i em
   subst em
   rw [hfd] at hb
   simp only [Option.map_some, Option.some.injEq] at hb
   subst hb
   have hF : HFoot (ρg (hname k)) q := hF
   rw [hgk] at hF
   rcases hfoot_join h0 hF with h | h
   ·have := hfootlt _ _ q hfd h; omega
   ·exact hitem i it hi hc q h
  ·rename_i hne
   have := hfootlt m b q hb ((Foot.agree (hgn m hne)).1 hF)
   omega)
 have hext : ∀ n, isHeap n = true → HExt (ρ n) (ρ' n) := fun n hn => by
  rw [r2 n fun i hi => by
   have := isHeap_le hn
   have := (hnew i (by omega)).1
   omega, ← hρg]
  exact ext_upd (join_ext h0) n
 refine ⟨v, av, _, ρ', rfl, hK, resV_sound (fun i it hi u hu => ?_) hres hsr, r1.mem, r1.sep, fun n hn hnn => ?_, hext, fun n b q hn hO => ?_, hk', fun q => by rw [hs] at q; cases q⟩
 ·show u = _
  have hlt := (List.getElem?_eq_some_iff.1 hi).1
  have e := r3 i hlt
  rw [Nat.zero_add] at e
  rw [e]
  exact (hMs i it hi).val u hu
 ·rw [r2 n fun i hi => by rw [Nat.zero_add]; exact hnn i (by omega)]
  exact hgn n fun e => by subst e; rw [hhp] at hn; cases hn
 ·rcases r1.own n b q hn hO with h | h
  ·exact Or.inr h
  ·exact Or.inl h
end
def hfrom : Nat → List (List Int) → List HS
 | _, [] => []
 | n, c :: r => ⟨n, 0, c.length⟩ :: hfrom (n + 1) r
theorem hfrom_app (n : Nat) (L : List (List Int)) (y : List Int) : hfrom n (L ++ [y]) = hfrom n L ++ [⟨n + L.length, 0, y.length⟩] := by
 induction L generalizing n with
 | nil => rfl
 | cons c r ih => simp only [List.cons_append, hfrom, ih, List.length_cons]; congr 4; omega
theorem hfrom_len (n : Nat) (L : List (List Int)) : (hfrom n L).length = L.length := by
 induction L generalizing n with
 | nil => rfl
 | cons c r ih => simp only [hfrom, List.length_cons, ih]
theorem hfrom_shift (n m : Nat) (L : List (List Int)) : (hfrom (m + 1) L).map (hshift n) = hfrom (m + n) L := by
 induction L generalizing m with
 | nil => rfl
 | cons c r ih =>
  simp only [hfrom, List.map_cons, ih]
  have : hshift n ⟨m + 1, 0, c.length⟩ = ⟨m + n, 0, c.length⟩ := by
   unfold hshift
   rw [if_neg (by simp)]
   rfl
  rw [this, show m + 1 + n = m + n + 1 by omega]
theorem hfrom_get {n : Nat} {L : List (List Int)} {i : Nat} (hi : i < L.length) : hget (hfrom n L) i = ⟨n + i, 0, (llget L i).length⟩ := by
 induction L generalizing n i with
 | nil => simp at hi
 | cons c r ih =>
  cases i with
  | zero => rfl
  | succ i =>
   have := ih (n := n + 1) (i := i) (by simpa using hi)
   simp only [hget, hfrom, llget, List.getD_cons_succ] at this ⊢
   rw [this]; congr 1; omega
theorem hcons_from (os L : List (List Int)) : hcons (os ++ L) (hfrom os.length L) = L := by
 induction L generalizing os with
 | nil => rfl
 | cons c r ih =>
  have e := ih (os ++ [c])
  simp only [List.append_assoc, List.cons_append, List.nil_append, List.length_append, List.length_cons, List.length_nil] at e
  simp only [hcons, hfrom, List.map_cons] at e ⊢
  rw [e]
  congr 1
  simp [hcon, llget, lsub]
theorem resH_hvec {d m : Nat} {σ σ' : Mem} {k : IntKind} {os cells : List (List Int)} {ds : List HS} {K : AV → Mem → Prop} {r s : List TV} (hf : Mem.find σ' m = some (.vec [.hss k ds])) (hh : Mem.heap σ' k = some ([] :: cells)) (hr : PlainT r s) (hds : ds = hfrom 1 cells)
  (hK : K (.tup (.c (.vec d) :: s)) (Mem.ins d (.vec [.hss k (hfrom (llen os) cells)]) (σ.put (hname k) (.heap k (lcat os cells))))) : ResH d 1 σ k os K (.tup (.c (.vec m) :: r)) σ' := by
 subst hds
 refine ⟨[.vec m [.hss k (hfrom 1 cells)]], .tup (.c (.vec d) :: s), [] :: cells, Nat.le_refl _, hh, fun it h => by simp at h; subst h; exact ⟨hf, by simp [onlyH]⟩, pairwise_one, ⟨Or.inr ⟨0, _, rfl, rfl, rfl⟩, hr.res⟩, ?_⟩
 have e : List.map (Item.shift k os.length) [.vec m [.hss k (hfrom 1 cells)]] = [[.hss k (hfrom (llen os) cells)]] := by
  simp only [List.map_cons, List.map_nil, Item.shift, Col.shift, if_true]
  rw [show (1 : Nat) = 0 + 1 from rfl, hfrom_shift, Nat.zero_add]; rfl
 rw [e]
 exact hK
theorem resH_hnil {d : Nat} {σ σ' : Mem} {k : IntKind} {os : List (List Int)} {K : AV → Mem → Prop} {r s : List TV} (hh : Mem.heap σ' k = some [[]]) (hr : PlainT r s)
  (hK : K (.tup (.c (.vec d) :: s)) (Mem.ins d (.vec [.hss k []]) (σ.put (hname k) (.heap k (lcat os []))))) : ResH d 1 σ k os K (.tup (.c (.con (.slice none 0 0)) :: r)) σ' := by
 refine ⟨[.nil [.rows k]], .tup (.c (.vec d) :: s), [[]], Nat.le_refl _, hh, fun it h => by simp at h; subst h; exact Nat.one_pos, pairwise_one, ⟨Or.inr ⟨0, _, rfl, rfl, rfl⟩, hr.res⟩, ?_⟩
 have e : List.map (Item.shift k os.length) [.nil [.rows k]] = [[.hss k []]] := by
  simp [Item.shift, Kd.nil]
 rw [e]
 exact hK
def oneRows (k : IntKind) (K : List (List Int) → Prop) (cs : List Col) : Prop :=
 match cs with
 | [.rows k' l] => if k' = k then K l else False
 | _ => False
def rdr (σ : Mem) (x : AV) (K : List (List Int) → Prop) : Prop := rdx σ [.rows .u8] x fun cs => match unHs σ cs with
 | some c => oneRows .u8 K c
 | none => False
theorem rdx_det2 {σ : Mem} {ks : List Kd} {x : AV} {K : List Col → Prop} (h : rdx σ ks x K) : ∃ cs, K cs ∧ ∀ K' : List Col → Prop, K' cs → rdx σ ks x K' := by
 unfold rdx at h
 split at h
 ·split at h <;> try exact h.elim
  rename_i hq
  exact ⟨_, h, fun K' k => by simpa [rdx, hq] using k⟩
 ·split at h <;> try exact h.elim
  rename_i hq
  split at h <;> try exact h.elim
  rename_i hz
  exact ⟨_, h, fun K' k => by simpa [rdx, hq, hz] using k⟩
 ·split at h <;> try exact h.elim
  rename_i hq
  split at h <;> try exact h.elim
  rename_i hz
  exact ⟨_, h, fun K' k => by simpa [rdx, hq, hz] using k⟩
 ·split at h <;> try exact h.elim
  rename_i hq
  exact ⟨_, h, fun K' k => by simpa [rdx, hq] using k⟩
 ·split at h <;> try exact h.elim
  rename_i hq
  exact ⟨_, h, fun K' k => by simpa [rdx, hq] using k⟩
 ·split at h <;> try exact h.elim
  rename_i hq
  split at h <;> try exact h.elim
  rename_i hf
  exact ⟨_, h.2, fun K' k => by simp only [rdx, hq, hf]; exact ⟨h.1, k⟩⟩
 ·exact ⟨_, h, fun K' k => by simpa [rdx] using k⟩
 ·split at h <;> try exact h.elim
  rename_i hq
  exact ⟨_, h, fun K' k => by simpa [rdx, hq] using k⟩
 ·exact h.elim
theorem rdr_row {σ : Mem} {x : AV} {K : List (List Int) → Prop} (h : rdr σ x K) : ∃ l, K l ∧ rdx σ [.rows .u8] x (fun c => unHs σ c = some [.rows .u8 l]) := by
 obtain ⟨cs, h1, h2⟩ := rdx_det2 h
 split at h1 <;> try exact h1.elim
 rename_i c hc
 unfold oneRows at h1
 split at h1 <;> try exact h1.elim
 split at h1 <;> try exact h1.elim
 rename_i hk
 subst hk
 exact ⟨_, h1, h2 _ hc⟩
end Go.Sx
namespace Go.Sx
structure Short (l : List Int) : Prop where
 le : l.length ≤ 140737488355328
end Go.Sx
namespace Go.Nz
open Go.Sx
def wt (n d : Nat) : Nat → Nat
 | 0 => 4294967296
 | k + 1 => wt n d k * n / d
def su (n d : Nat) : Nat → Nat
 | 0 => wt n d 0
 | k + 1 => su n d k + wt n d (k + 1)
structure Fit (n d m : Int) : Prop where
 n0 : 0 ≤ n
 nd : n ≤ d
 d1 : 1 ≤ d
 dk : d ≤ 1000
 m0 : 0 ≤ m
 m16 : m ≤ 16
def fitB (n d m : Int) : Bool := decide (0 ≤ n) && decide (n ≤ d) && decide (1 ≤ d) && decide (d ≤ 1000) && decide (0 ≤ m) && decide (m ≤ 16)
def tblL (n d m : Int) : List Int := if fitB n d m = true then tab (m.toNat + 1) (fun k => ((65536 * su n.toNat d.toNat k / su n.toNat d.toNat m.toNat : Nat) : Int)) else []
def tblE (n d m : Int) : Int := if fitB n d m = true then 0 else 2
def wtI (n d k : Int) : Int := (wt n.toNat d.toNat k.toNat : Nat)
def suI (n d k : Int) : Int := (su n.toNat d.toNat k.toNat : Nat)
end Go.Nz
namespace Go.Sx
open Go.Nz
def rdi (σ : Mem) (x : AV) (K : List Int → Prop) : Prop := rdx σ [.ints .i64] x (oneInts .i64 K)
theorem rdi_row {σ : Mem} {x : AV} {K : List Int → Prop} (h : rdi σ x K) : ∃ l, K l ∧ rdx σ [.ints .i64] x (fun c => c = [.ints .i64 l]) := by
 obtain ⟨cs, h1, h2⟩ := rdx_det h
 unfold oneInts at h1
 split at h1 <;> try exact h1.elim
 split at h1 <;> try exact h1.elim
 rename_i hk
 subst hk
 exact ⟨_, h1, h2⟩
def fitsS : Spec := ⟨0, false, fun _ args σ K => match args with
 | [.one (.int .i64 n), .one (.int .i64 d), .one (.int .i64 m)] => K (.one (.bool (fitB n d m))) σ
 | _ => False⟩
def weightS : Spec := ⟨0, false, fun _ args σ K => match args with
 | [.one (.int .i64 n), .one (.int .i64 d), .one (.int .i64 k)] => Fit n d k ∧ K (.one (.int .i64 (wtI n d k))) σ
 | _ => False⟩
def uptoS : Spec := ⟨0, false, fun _ args σ K => match args with
 | [.one (.int .i64 n), .one (.int .i64 d), .one (.int .i64 k)] => Fit n d k ∧ K (.one (.int .i64 (suI n d k))) σ
 | _ => False⟩
def tableS : Spec := ⟨1, false, fun e args σ K => match args with
 | [.one (.int .i64 n), .one (.int .i64 d), .one (.int .i64 m)] => K (.tup [.c (.vec e), .c (.int .i64 (tblE n d m))]) (Mem.ins e (.vec [.ints .i64 (tblL n d m)]) σ)
 | _ => False⟩
def sameS : Spec := ⟨0, false, fun _ args σ K => match args with
 | [x, y] => rdi σ x fun a => rdi σ y fun b => (Short a ∧ Short b) ∧ K (.one (.bool (leq a b))) σ
 | _ => False⟩
def awakeS : Spec := ⟨0, false, fun _ args σ K => match args with
 | [] => K (.one (.lit true)) σ
 | _ => False⟩
def gamN1 : Gam := ext (ext (ext gam0 18 fitsS) 28 weightS) 11 sameS
def gamN2 : Gam := ext gamN1 19 uptoS
def gamN3 : Gam := ext (ext gamN2 9 tableS) 10 tableS
def gamN4 : Gam := ext gamN3 8 awakeS
end Go.Sx
namespace Go.Nz
open Go.Sx
def kFrom (l : List Int) (u : Int) : Nat → Nat → Nat
 | 0, k => k
 | f + 1, k => if lget l k ≤ u then kFrom l u f (k + 1) else k
def kOf (l : List Int) (u : Int) : Nat := kFrom l u l.length 0
def uOf (p : List Int) : Int := lget p 0 * 256 + lget p 1
def cntE (p : List Int) (n d m : Int) : Int := if fitB n d m = true then (if p.length < 18 then 3 else 0) else 2
def cntN (p : List Int) (n d m : Int) : Int := if cntE p n d m = 0 then (kOf (tblL n d m) (uOf p) : Nat) else 0
end Go.Nz
namespace Go.Sx
open Go.Nz
def countS : Spec := ⟨0, false, fun _ args σ K => match args with
 | [x, .one (.int .i64 n), .one (.int .i64 d), .one (.int .i64 m)] => rdb σ x fun p => (Short p ∧ Bs p) ∧ K (.tup [.c (.int .i64 (cntN p n d m)), .c (.int .i64 (cntE p n d m))]) σ
 | _ => False⟩
def gamN5 : Gam := ext (ext gamN4 12 countS) 13 countS
end Go.Sx
namespace Go.Proofs.Ytacnldmmacjpoaa.G
open Go Go.Sx Go.Nz
set_option maxRecDepth 100000
def rcount.l0 (R : AV → Mem → Prop) (p : List Int) (n d k : Int) (fuel : Nat) (x0 : Int) : Prop := run Try.prog gamN4 [] (resh Try.prog [] Try.f12.results.toList R) fuel [kc Try.f12 [1,1,1,1,1,1,0,0,0],ki Try.f12 [1,1,1,1,1,1,0,0,0],.inBlock 0,kc Try.f12 [1,1,1,1,1,1,1]] (us 10 (Vv 18::Uu::Ii (add IntKind.i64 (mul IntKind.i64 (conv IntKind.i64 (lget p 0)) 256) (conv IntKind.i64 (lget p 1)))::Ii x0::(us 31 [Zz]))) [(18,Blk.vec [Col.ints IntKind.i64 (tblL n d k)]),(200000,Blk.rview [Col.ints IntKind.u8 p])]
theorem rcount.l0_succ (R : AV → Mem → Prop) (p : List Int) (n d k : Int) (fuel : Nat) (x0 : Int) : rcount.l0 R p n d k (fuel + 1) x0 = (((InB x0 (llen (tblL n d k))) ∧ (let y1 : Bool := (ige (add IntKind.i64 (mul IntKind.i64 (conv IntKind.i64 (lget p 0)) 256) (conv IntKind.i64 (lget p 1))) (lget (tblL n d k) (nat x0))); (((y1 = true) → (rcount.l0 R p n d k fuel (add IntKind.i64 x0 1))) ∧ ((y1 = false) → (R (AV.tup [TV.c (AC.int IntKind.i64 x0),TV.c (AC.int IntKind.i64 0)]) [(18,Blk.vec [Col.ints IntKind.i64 (tblL n d k)]),(200000,Blk.rview [Col.ints IntKind.u8 p])])))))) := by kernel_rfl
theorem rcount_vc (R : AV → Mem → Prop) (fuel : Nat) (p : List Int) (n : Int) (d : Int) (k : Int) : callsx Try.prog gamN4 [] Try.f12 (fuel + 1) [.one (.vec 200000), .one (.int .i64 n), .one (.int .i64 d), .one (.int .i64 k)] [(200000, .rview [.ints .u8 p])] R = (((((ine (Go.Nz.tblE n d k) 0) = true) → (R (AV.tup [(TV.c (AC.int IntKind.i64 0)), (TV.c (AC.int IntKind.i64 (Go.Nz.tblE n d k)))]) [(18, Blk.vec [(Col.ints IntKind.i64 (Go.Nz.tblL n d k))]), (200000, Blk.rview [(Col.ints IntKind.u8 p)])])) ∧ (((ine (Go.Nz.tblE n d k) 0) = false) → ((((ilt (ofNat (llen p)) 18) = true) → (R (AV.tup [(TV.c (AC.int IntKind.i64 0)), (TV.c (AC.int IntKind.i64 3))]) [(18, Blk.vec [(Col.ints IntKind.i64 (Go.Nz.tblL n d k))]), (200000, Blk.rview [(Col.ints IntKind.u8 p)])])) ∧ (((ilt (ofNat (llen p)) 18) = false) → ((InB 0 (llen p)) ∧ ((InB 1 (llen p)) ∧ (rcount.l0 R p n d k fuel 0)))))))) := by kernel_rfl
def ncount.l0 (R : AV → Mem → Prop) (p : List Int) (n d k : Int) (fuel : Nat) (x0 : Int) : Prop := run Try.prog gamN4 [] (resh Try.prog [] Try.f13.results.toList R) fuel [kc Try.f13 [1,1,1,1,1,1,0,0,0],ki Try.f13 [1,1,1,1,1,1,0,0,0],.inBlock 0,kc Try.f13 [1,1,1,1,1,1,1]] (us 10 (Vv 18::Uu::Ii (bor IntKind.i64 (shl IntKind.i64 (conv IntKind.i64 (lget p 0)) 8) (conv IntKind.i64 (lget p 1)))::Ii x0::(us 31 [Zz]))) [(18,Blk.vec [Col.ints IntKind.i64 (tblL n d k)]),(200000,Blk.rview [Col.ints IntKind.u8 p])]
theorem ncount.l0_succ (R : AV → Mem → Prop) (p : List Int) (n d k : Int) (fuel : Nat) (x0 : Int) : ncount.l0 R p n d k (fuel + 1) x0 = (((InB x0 (llen (tblL n d k))) ∧ (let y1 : Bool := (ige (bor IntKind.i64 (shl IntKind.i64 (conv IntKind.i64 (lget p 0)) 8) (conv IntKind.i64 (lget p 1))) (lget (tblL n d k) (nat x0))); (((y1 = true) → (ncount.l0 R p n d k fuel (add IntKind.i64 x0 1))) ∧ ((y1 = false) → (R (AV.tup [TV.c (AC.int IntKind.i64 x0),TV.c (AC.int IntKind.i64 0)]) [(18,Blk.vec [Col.ints IntKind.i64 (tblL n d k)]),(200000,Blk.rview [Col.ints IntKind.u8 p])])))))) := by kernel_rfl
theorem ncount_vc (R : AV → Mem → Prop) (fuel : Nat) (p : List Int) (n : Int) (d : Int) (k : Int) : callsx Try.prog gamN4 [] Try.f13 (fuel + 1) [.one (.vec 200000), .one (.int .i64 n), .one (.int .i64 d), .one (.int .i64 k)] [(200000, .rview [.ints .u8 p])] R = (((((ine (Go.Nz.tblE n d k) 0) = true) → (R (AV.tup [(TV.c (AC.int IntKind.i64 0)), (TV.c (AC.int IntKind.i64 (Go.Nz.tblE n d k)))]) [(18, Blk.vec [(Col.ints IntKind.i64 (Go.Nz.tblL n d k))]), (200000, Blk.rview [(Col.ints IntKind.u8 p)])])) ∧ (((ine (Go.Nz.tblE n d k) 0) = false) → ((((ilt (ofNat (llen p)) 18) = true) → (R (AV.tup [(TV.c (AC.int IntKind.i64 0)), (TV.c (AC.int IntKind.i64 3))]) [(18, Blk.vec [(Col.ints IntKind.i64 (Go.Nz.tblL n d k))]), (200000, Blk.rview [(Col.ints IntKind.u8 p)])])) ∧ (((ilt (ofNat (llen p)) 18) = false) → ((InB 0 (llen p)) ∧ ((NonNeg 8) ∧ ((InB 1 (llen p)) ∧ (ncount.l0 R p n d k fuel 0))))))))) := by kernel_rfl
def leven.l1 (R : AV → Mem → Prop) (n : Int) (x2 : List Int) (d k : Int) (fuel : Nat) (x13 x14 : Int) : Prop := run Try.prog gamN5 [] (resh Try.prog [] Try.f5.results.toList R) fuel [kc Try.f5 [1,1,1,1,1,1,1,1,1,0,1,0,0],ki Try.f5 [1,1,1,1,1,1,1,1,1,0,1,0,0],.inBlock 2,kc Try.f5 [1,1,1,1,1,1,1,1,1,1]] (Ii n::(us 6 (Vv 25::(us 4 (Vv 72::Uu::Uu::Uu::Ii x13::(us 94 (Vv 72::Ii (ofNat (llen x2))::Ii x14::(us 32 [])))))))) [(25,Blk.vec [Col.ints IntKind.i64 (tblL n d k)]),(72,Blk.vec [Col.ints IntKind.i64 x2])]
def leven.l0 (R : AV → Mem → Prop) (n d k : Int) (fuel : Nat) (x0 : Int) (x1 x2 : List Int) : Prop := run Try.prog gamN5 [] (resh Try.prog [] Try.f5.results.toList R) fuel [kc Try.f5 [1,1,1,1,1,1,1,0,1,0,0],ki Try.f5 [1,1,1,1,1,1,1,0,1,0,0],.inBlock 0,kc Try.f5 [1,1,1,1,1,1,1,1]] (Ii n::Ii d::Ii k::(us 4 (Vv 25::Uu::Vv 28::Uu::Uu::Vv 72::Uu::Uu::Uu::Zz::Zz::Zz::(us 54 (Ii x0::(us 37 (zs 35 []))))))) [(25,Blk.vec [Col.ints IntKind.i64 (tblL n d k)]),(28,Blk.vec [Col.ints IntKind.u8 x1]),(72,Blk.vec [Col.ints IntKind.i64 x2])]
end Go.Proofs.Ytacnldmmacjpoaa.G
namespace Go.Proofs.Ytacnldmmacjpoaa.G
open Go Go.Sx
theorem mixed : Try.prog.follows .mixedOrders = true := by kernel_rfl
end Go.Proofs.Ytacnldmmacjpoaa.G
namespace Go.Proofs.Ytacnldmmacjpoaa.G
open Go Go.Sx Go.Nz
set_option maxRecDepth 100000
theorem nfits_vc (R : AV → Mem → Prop) (fuel : Nat) (n : Int) (d : Int) (k : Int) : callsx Try.prog gam0 [] Try.f18 (fuel + 1) [.one (.int .i64 n), .one (.int .i64 d), .one (.int .i64 k)] [] R = (((((ige n 0) = true) → ((((ile n d) = true) → ((((ige d 1) = true) → ((((ile d 1000) = true) → ((((ige k 0) = true) → (R (AV.one (AC.bool (ile k 16))) [])) ∧ (((ige k 0) = false) → (R (AV.one (AC.lit false)) [])))) ∧ (((ile d 1000) = false) → (R (AV.one (AC.lit false)) [])))) ∧ (((ige d 1) = false) → (R (AV.one (AC.lit false)) [])))) ∧ (((ile n d) = false) → (R (AV.one (AC.lit false)) [])))) ∧ (((ige n 0) = false) → (R (AV.one (AC.lit false)) [])))) := by kernel_rfl
def nweight.l0 (R : AV → Mem → Prop) (n d k : Int) (fuel : Nat) (x0 x1 : Int) : Prop := run Try.prog gam0 [] (resh Try.prog [] Try.f28.results.toList R) fuel [kc Try.f28 [1,1,0,1,0,0],ki Try.f28 [1,1,0,1,0,0],.inBlock 0,kc Try.f28 [1,1,1]] (Ii n::Ii d::Ii k::(us 4 (Ii x0::Ii x1::(us 10 [Zz])))) []
theorem nweight.l0_succ (R : AV → Mem → Prop) (n d k : Int) (fuel : Nat) (x0 x1 : Int) : nweight.l0 R n d k (fuel + 1) x0 x1 = (((((ilt x1 k) = true) → ((NeZ d) ∧ (nweight.l0 R n d k fuel (quo IntKind.i64 (mul IntKind.i64 x0 n) d) (add IntKind.i64 x1 1)))) ∧ (((ilt x1 k) = false) → (R (Ii x0) [])))) := by kernel_rfl
theorem nweight_vc (R : AV → Mem → Prop) (fuel : Nat) (n : Int) (d : Int) (k : Int) : callsx Try.prog gam0 [] Try.f28 (fuel + 1) [.one (.int .i64 n), .one (.int .i64 d), .one (.int .i64 k)] [] R = ((nweight.l0 R n d k fuel 4294967296 0)) := by kernel_rfl
def nupto.l0 (R : AV → Mem → Prop) (n d k : Int) (fuel : Nat) (x0 x1 : Int) : Prop := run Try.prog gamN1 [] (resh Try.prog [] Try.f19.results.toList R) fuel [kc Try.f19 [1,1,0,1,0,0],ki Try.f19 [1,1,0,1,0,0],.inBlock 0,kc Try.f19 [1,1,1]] (Ii n::Ii d::Ii k::(us 4 (Ii x0::Ii x1::(us 13 [Zz])))) []
theorem nupto.l0_succ (R : AV → Mem → Prop) (n d k : Int) (fuel : Nat) (x0 x1 : Int) : nupto.l0 R n d k (fuel + 1) x0 x1 = (((((ile x1 k) = true) → ((Fit n d x1) ∧ (nupto.l0 R n d k fuel (add IntKind.i64 x0 (wtI n d x1)) (add IntKind.i64 x1 1)))) ∧ (((ile x1 k) = false) → (R (Ii x0) [])))) := by kernel_rfl
theorem nupto_vc (R : AV → Mem → Prop) (fuel : Nat) (n : Int) (d : Int) (k : Int) : callsx Try.prog gamN1 [] Try.f19 (fuel + 1) [.one (.int .i64 n), .one (.int .i64 d), .one (.int .i64 k)] [] R = ((nupto.l0 R n d k fuel 0 0)) := by kernel_rfl
def nsame.l0 (R : AV → Mem → Prop) (a b : List Int) (fuel : Nat) (x0 : Int) : Prop := run Try.prog gam0 [] (resh Try.prog [] Try.f11.results.toList R) fuel [kc Try.f11 [1,1,0,1,0,0],ki Try.f11 [1,1,0,1,0,0],.inBlock 0,kc Try.f11 [1,1,1]] (Vv 200000::Vv 200001::(us 10 (Ii (ofNat (llen a))::Ii x0::(us 12 [])))) [(200000,Blk.rview [Col.ints IntKind.i64 a]),(200001,Blk.rview [Col.ints IntKind.i64 b])]
theorem nsame.l0_succ (R : AV → Mem → Prop) (a b : List Int) (fuel : Nat) (x0 : Int) : nsame.l0 R a b (fuel + 1) x0 = (((((ilt x0 (ofNat (llen a))) = true) → ((InB x0 (llen a)) ∧ ((InB x0 (llen b)) ∧ ((((ine (lget a (nat x0)) (lget b (nat x0))) = true) → (R (Ll false) [(200000,Blk.rview [Col.ints IntKind.i64 a]),(200001,Blk.rview [Col.ints IntKind.i64 b])])) ∧ (((ine (lget a (nat x0)) (lget b (nat x0))) = false) → (nsame.l0 R a b fuel (add IntKind.i64 x0 1))))))) ∧ (((ilt x0 (ofNat (llen a))) = false) → (R (Ll true) [(200000,Blk.rview [Col.ints IntKind.i64 a]),(200001,Blk.rview [Col.ints IntKind.i64 b])])))) := by kernel_rfl
theorem nsame_vc (R : AV → Mem → Prop) (fuel : Nat) (a : List Int) (b : List Int) : callsx Try.prog gam0 [] Try.f11 (fuel + 1) [.one (.vec 200000), .one (.vec 200001)] [(200000, .rview [.ints .i64 a]), (200001, .rview [.ints .i64 b])] R = (((((ine (ofNat (llen a)) (ofNat (llen b))) = true) → (R (AV.one (AC.lit false)) [(200000, Blk.rview [(Col.ints IntKind.i64 a)]), (200001, Blk.rview [(Col.ints IntKind.i64 b)])])) ∧ (((ine (ofNat (llen a)) (ofNat (llen b))) = false) → (nsame.l0 R a b fuel 0)))) := by kernel_rfl
def rtable.l0 (R : AV → Mem → Prop) (n d k : Int) (fuel : Nat) (x0 : Int) (x1 : List Int) : Prop := run Try.prog gamN2 [⟨9,[.ints .i64],true,false⟩] (resh Try.prog [⟨9,[.ints .i64],true,false⟩] Try.f9.results.toList R) fuel [kc Try.f9 [1,1,1,1,0,1,0,0],ki Try.f9 [1,1,1,1,0,1,0,0],.inBlock 0,kc Try.f9 [1,1,1,1,1]] (Ii n::Ii d::Ii k::(us 5 (Ii (suI n d k)::Vv 100009::Ii x0::(us 26 [Zz])))) [(100009,Blk.vec [Col.ints IntKind.i64 x1])]
theorem rtable.l0_succ (R : AV → Mem → Prop) (n d k : Int) (fuel : Nat) (x0 : Int) (x1 : List Int) : rtable.l0 R n d k (fuel + 1) x0 x1 = (((((ile x0 k) = true) → ((Fit n d x0) ∧ ((NeZ (suI n d k)) ∧ ((Room (nadd (llen x1) (llen [(quo IntKind.i64 (mul IntKind.i64 65536 (suI n d x0)) (suI n d k))])) 8) ∧ (rtable.l0 R n d k fuel (add IntKind.i64 x0 1) (lcat x1 [(quo IntKind.i64 (mul IntKind.i64 65536 (suI n d x0)) (suI n d k))])))))) ∧ (((ile x0 k) = false) → (R (AV.tup [TV.c (AC.vec 100009),TV.c (AC.int IntKind.i64 0)]) [(100009,Blk.vec [Col.ints IntKind.i64 x1])])))) := by kernel_rfl
theorem rtable_vc (R : AV → Mem → Prop) (fuel : Nat) (n : Int) (d : Int) (k : Int) : callsx Try.prog gamN2 [⟨9, [.ints .i64], true, false⟩] Try.f9 (fuel + 1) [.one (.int .i64 n), .one (.int .i64 d), .one (.int .i64 k)] [] R = (((((bnot (Go.Nz.fitB n d k)) = true) → (R (AV.tup [(TV.c (AC.con (Value.slice (Option.none) 0 0))), (TV.c (AC.int IntKind.i64 2))]) [])) ∧ (((bnot (Go.Nz.fitB n d k)) = false) → ((Go.Nz.Fit n d k) ∧ (rtable.l0 R n d k fuel 0 []))))) := by kernel_rfl
def ntable.l1 (R : AV → Mem → Prop) (k : Int) (x2 : List Int) (fuel : Nat) (x3 : Int) (x4 : List Int) : Prop := run Try.prog gam0 [⟨8,[.ints .i64],true,false⟩,⟨12,[.ints .i64],true,false⟩] (resh Try.prog [⟨8,[.ints .i64],true,false⟩,⟨12,[.ints .i64],true,false⟩] Try.f10.results.toList R) fuel [kc Try.f10 [1,1,1,1,1,0,1,0,0],ki Try.f10 [1,1,1,1,1,0,1,0,0],.inBlock 2,kc Try.f10 [1,1,1,1,1,1]] (Uu::Uu::Ii k::(us 5 (Vv 100008::Uu::Uu::Uu::Vv 100012::(us 55 (Vv 100008::Ii (ofNat (llen x2))::Ii x3::(us 14 [Zz])))))) [(100008,Blk.vec [Col.ints IntKind.i64 x2]),(100012,Blk.vec [Col.ints IntKind.i64 x4])]
def ntable.l0 (R : AV → Mem → Prop) (n d k : Int) (fuel : Nat) (x0 x1 : Int) (x2 : List Int) : Prop := run Try.prog gam0 [⟨8,[.ints .i64],true,false⟩,⟨12,[.ints .i64],true,false⟩] (resh Try.prog [⟨8,[.ints .i64],true,false⟩,⟨12,[.ints .i64],true,false⟩] Try.f10.results.toList R) fuel [kc Try.f10 [1,1,1,0,1,0,0],ki Try.f10 [1,1,1,0,1,0,0],.inBlock 0,kc Try.f10 [1,1,1,1]] (Ii n::Ii d::Ii k::(us 5 (Vv 100008::Ii x0::Ii x1::Uu::Zz::Uu::Zz::(us 50 (zs 21 []))))) [(100008,Blk.vec [Col.ints IntKind.i64 x2])]
theorem ntable.l1_succ (R : AV → Mem → Prop) (k : Int) (x2 : List Int) (fuel : Nat) (x3 : Int) (x4 : List Int) : ntable.l1 R k x2 (fuel + 1) x3 x4 = (((((ilt x3 (ofNat (llen x2))) = true) → ((InB x3 (llen x2)) ∧ ((InB k (llen x2)) ∧ ((NeZ (lget x2 (nat k))) ∧ ((Room (nadd (llen x4) (llen [(quo IntKind.i64 (mul IntKind.i64 65536 (lget x2 (nat x3))) (lget x2 (nat k)))])) 8) ∧ (ntable.l1 R k x2 fuel (add IntKind.i64 x3 1) (lcat x4 [(quo IntKind.i64 (mul IntKind.i64 65536 (lget x2 (nat x3))) (lget x2 (nat k)))]))))))) ∧ (((ilt x3 (ofNat (llen x2))) = false) → (R (AV.tup [TV.c (AC.vec 100012),TV.c (AC.int IntKind.i64 0)]) [(100008,Blk.vec [Col.ints IntKind.i64 x2]),(100012,Blk.vec [Col.ints IntKind.i64 x4])])))) := by kernel_rfl
theorem ntable.l0_succ (R : AV → Mem → Prop) (n d k : Int) (fuel : Nat) (x0 x1 : Int) (x2 : List Int) : ntable.l0 R n d k (fuel + 1) x0 x1 x2 = (((((ile x0 k) = true) → ((((igt x0 0) = true) → ((InB (sub IntKind.i64 x0 1) (llen x2)) ∧ ((Room (nadd (llen x2) (llen [(add IntKind.i64 x1 (lget x2 (nat (sub IntKind.i64 x0 1))))])) 8) ∧ ((NeZ d) ∧ (ntable.l0 R n d k fuel (add IntKind.i64 x0 1) (quo IntKind.i64 (mul IntKind.i64 x1 n) d) (lcat x2 [(add IntKind.i64 x1 (lget x2 (nat (sub IntKind.i64 x0 1))))])))))) ∧ (((igt x0 0) = false) → ((Room (nadd (llen x2) (llen [x1])) 8) ∧ ((NeZ d) ∧ (ntable.l0 R n d k fuel (add IntKind.i64 x0 1) (quo IntKind.i64 (mul IntKind.i64 x1 n) d) (lcat x2 [x1]))))))) ∧ (((ile x0 k) = false) → ((Mk 0 (add IntKind.i64 k 1) 8) ∧ (ntable.l1 R k x2 fuel 0 (lzeros 0)))))) := by kernel_rfl
theorem ntable_vc (R : AV → Mem → Prop) (fuel : Nat) (n : Int) (d : Int) (k : Int) : callsx Try.prog gam0 [⟨8, [.ints .i64], true, false⟩, ⟨12, [.ints .i64], true, false⟩] Try.f10 (fuel + 1) [.one (.int .i64 n), .one (.int .i64 d), .one (.int .i64 k)] [] R = (((((ilt n 0) = false) → ((((igt n d) = false) → ((((ilt d 1) = false) → ((((igt d 1000) = false) → ((((ilt k 0) = false) → ((((igt k 16) = true) → (R (AV.tup [(TV.c (AC.con (Value.slice (Option.none) 0 0))), (TV.c (AC.int IntKind.i64 2))]) [])) ∧ (((igt k 16) = false) → ((Mk 0 (add IntKind.i64 k 1) 8) ∧ (ntable.l0 R n d k fuel 0 4294967296 (lzeros 0)))))) ∧ (((ilt k 0) = true) → (R (AV.tup [(TV.c (AC.con (Value.slice (Option.none) 0 0))), (TV.c (AC.int IntKind.i64 2))]) [])))) ∧ (((igt d 1000) = true) → (R (AV.tup [(TV.c (AC.con (Value.slice (Option.none) 0 0))), (TV.c (AC.int IntKind.i64 2))]) [])))) ∧ (((ilt d 1) = true) → (R (AV.tup [(TV.c (AC.con (Value.slice (Option.none) 0 0))), (TV.c (AC.int IntKind.i64 2))]) [])))) ∧ (((igt n d) = true) → (R (AV.tup [(TV.c (AC.con (Value.slice (Option.none) 0 0))), (TV.c (AC.int IntKind.i64 2))]) [])))) ∧ (((ilt n 0) = true) → (R (AV.tup [(TV.c (AC.con (Value.slice (Option.none) 0 0))), (TV.c (AC.int IntKind.i64 2))]) [])))) := by kernel_rfl
theorem nawake_vc (R : AV → Mem → Prop) (fuel : Nat)  : callsx Try.prog gamN3 [] Try.f8 (fuel + 1) [] [] R = (((((ieq (Go.Nz.tblE 1 2 3) 0) = true) → (((Short (Go.Nz.tblL 1 2 3)) ∧ (Short [34952, 52428, 61166, 65536])) ∧ (R (AV.one (AC.bool (leq (Go.Nz.tblL 1 2 3) [34952, 52428, 61166, 65536]))) [(4, Blk.vec [(Col.ints IntKind.i64 (Go.Nz.tblL 1 2 3))]), (11, Blk.vec [(Col.ints IntKind.i64 [34952, 52428, 61166, 65536])])]))) ∧ (((ieq (Go.Nz.tblE 1 2 3) 0) = false) → (R (AV.one (AC.lit false)) [(4, Blk.vec [(Col.ints IntKind.i64 (Go.Nz.tblL 1 2 3))])])))) := by kernel_rfl
def ltables.l0 (R : AV → Mem → Prop) (n d k : Int) (fuel : Nat) (x0 : Int) (x1 : List Int) : Prop := run Try.prog gamN4 [] (resh Try.prog [] Try.f3.results.toList R) fuel [kc Try.f3 [1,1,1,1,1,1,0,1,0,0],ki Try.f3 [1,1,1,1,1,1,0,1,0,0],.inBlock 0,kc Try.f3 [1,1,1,1,1,1,1]] (Ii n::Ii d::Ii k::(us 4 (Vv 22::Ii (tblE n d k)::Vv 29::Uu::Vv 36::Uu::Uu::Zz::Zz::(us 44 (Ii (ofNat (llen (tblL n d k)))::Ii x0::(us 6 (zs 28 []))))))) [(22,Blk.vec [Col.ints IntKind.i64 (tblL n d k)]),(29,Blk.vec [Col.ints IntKind.i64 x1]),(36,Blk.vec [Col.ints IntKind.i64 (tblL n d k)])]
end Go.Proofs.Ytacnldmmacjpoaa.G
namespace Go.Nz
open Go.Sx
theorem wt_le {n d : Nat} (h : n ≤ d) (hd : 1 ≤ d) : ∀ k, wt n d k ≤ 4294967296
 | 0 => Nat.le_refl _
 | k + 1 => by
  refine Nat.le_trans ?_ (wt_le h hd k)
  simp only [wt]
  exact Nat.div_le_of_le_mul (by rw [Nat.mul_comm d]; exact Nat.mul_le_mul_left _ h)
theorem su_le {n d : Nat} (h : n ≤ d) (hd : 1 ≤ d) : ∀ k, su n d k ≤ (k + 1) * 4294967296
 | 0 => by simp [su, wt]
 | k + 1 => by
  have h1 := su_le h hd k
  have h2 := wt_le h hd (k + 1)
  simp only [su]
  omega
theorem su_pos (n d : Nat) : ∀ k, 4294967296 ≤ su n d k
 | 0 => by simp [su, wt]
 | k + 1 => by have := su_pos n d k; simp only [su]; omega
theorem fitB_iff {n d m : Int} : fitB n d m = true ↔ Fit n d m := by
 simp only [fitB, Bool.and_eq_true, decide_eq_true_eq]
 exact ⟨fun ⟨⟨⟨⟨⟨a, b⟩, c⟩, e⟩, f⟩, g⟩ => ⟨a, b, c, e, f, g⟩, fun h => ⟨⟨⟨⟨⟨h.n0, h.nd⟩, h.d1⟩, h.dk⟩, h.m0⟩, h.m16⟩⟩
theorem fit_nat {n d m : Int} (h : Fit n d m) : ∃ a b c : Nat, n = (a : Int) ∧ d = (b : Int) ∧ m = (c : Int) ∧ a ≤ b ∧ 1 ≤ b ∧ b ≤ 1000 ∧ c ≤ 16 := by
 obtain ⟨a, rfl⟩ := Int.eq_ofNat_of_zero_le h.n0
 obtain ⟨b, rfl⟩ := Int.eq_ofNat_of_zero_le (show 0 ≤ d by have := h.d1; omega)
 obtain ⟨c, rfl⟩ := Int.eq_ofNat_of_zero_le h.m0
 have h1 := h.nd; have h2 := h.d1; have h3 := h.dk; have h4 := h.m16
 exact ⟨a, b, c, rfl, rfl, rfl, by omega, by omega, by omega, by omega⟩
theorem tblL_len (n d m : Int) : (tblL n d m).length ≤ 17 := by
 unfold tblL
 split
 ·rename_i h
  have h4 := (fitB_iff.1 h).m16
  rw [tab_len]; omega
 ·simp
end Go.Nz
namespace Go.Proofs.Ytacnldmmacjpoaa.G
open Go Go.Sx Go.Nz
theorem leq_self (a : List Int) : leq a a = true := by simp [leq]
theorem ieq_self (a : Int) : ieq a a = true := by simp [ieq]
theorem ine_self (a : Int) : ine a a = false := by simp [ine]
theorem good_fits : Sx.Good Try.prog 18 fitsS := by
 refine Sx.Good.pure2 (D := []) mixed (good0 _) Try.func18 (by kernel_rfl) rfl fun d args σ K h => ?_
 simp only [fitsS] at h
 split at h <;> try exact h.elim
 rename_i n d m
 refine ⟨by simp [plain_int], _, plain_bool _, h, 0 + 1, ?_⟩
 rw [nfits_vc]
 have no : ¬ Fit n d m → ∀ ρ v, SRep ρ (.one (.lit false)) v → SRep ρ (.one (.bool (fitB n d m))) v := fun e ρ v hv => by
  rw [show fitB n d m = false from Bool.eq_false_iff.2 fun q => e (fitB_iff.1 q)]; exact hv
 refine ⟨fun a1 => ⟨fun a2 => ⟨fun a3 => ⟨fun a4 => ⟨fun a5 => fun ρ v hv => ?_, fun a5 => no fun f => ?_⟩, fun a4 => no fun f => ?_⟩, fun a3 => no fun f => ?_⟩, fun a2 => no fun f => ?_⟩, fun a1 => no fun f => ?_⟩
 ·rw [ige_true] at a1 a3 a5; rw [ile_true] at a2 a4
  have : fitB n d m = ile m 16 := by
   simp only [fitB, ile, a1, a2, a3, a4, a5, decide_true, Bool.true_and, Bool.and_true]
  rw [this]; exact hv
 ·have := f.m0; rw [ige_false] at a5; omega
 ·have := f.dk; rw [ile_false] at a4; omega
 ·have := f.d1; rw [ige_false] at a3; omega
 ·have := f.nd; rw [ile_false] at a2; omega
 ·have := f.n0; rw [ige_false] at a1; omega
theorem good_weight : Sx.Good Try.prog 28 weightS := by
 refine Sx.Good.pure (D := []) mixed (good0 _) Try.func28 (by kernel_rfl) rfl fun d args σ K h => ?_
 simp only [weightS] at h
 split at h <;> try exact h.elim
 rename_i n d k
 obtain ⟨hf, hK⟩ := h
 obtain ⟨a, b, c, rfl, rfl, rfl, h1, h2, h3, h4⟩ := fit_nat hf
 refine ⟨by simp [plain_int], _, plain_int _ _, hK, (1 + 1 * (c - 0)) + 1, ?_⟩
 rw [nweight_vc]
 refine loop_n (fun f i x => nweight.l0 (fun av' _ => av' = .one (.int .i64 (wtI (a : Int) (b : Int) (c : Int)))) (a : Int) (b : Int) (c : Int) f x i) c (fun i => (wt a b i : Int)) 1 1 (fun g i hi hg => ?_) ?_ 0 (Nat.zero_le _)
 ·rw [nweight.l0_succ]
  refine ⟨fun _ => ⟨⟨by omega⟩, ?_⟩, fun q => ?_⟩
  ·have hw := wt_le h1 h2 i
   have hm : wt a b i * a ≤ 4294967296 * 1000 := Nat.mul_le_mul hw (by omega)
   rw [mulN_i64 (by omega), quoN_i64 (by omega), add1_i64 (by omega)]
   exact hg
  ·rw [ilt_false] at q; omega
 ·rw [nweight.l0_succ]
  refine ⟨fun q => ?_, fun _ => rfl⟩
  rw [ilt_true] at q; omega
theorem good_same : Sx.Good Try.prog 11 sameS := by
 refine Sx.Good.reads (D := []) mixed (good0 _) Try.func11 (by kernel_rfl) rfl fun d args σ K h => ?_
 simp only [sameS] at h
 split at h <;> try exact h.elim
 rename_i x y
 obtain ⟨a, h, ha⟩ := rdi_row h
 obtain ⟨b, ⟨⟨sa, sb⟩, hK⟩, hb⟩ := rdi_row h
 have la := sa.le
 refine ⟨[.one (.vec 200000), .one (.vec 200001)], [(200000, .rview [.ints .i64 a]), (200001, .rview [.ints .i64 b])], .row [.ints .i64] _ ha (by decide) (.row [.ints .i64] _ hb (by decide) (.nil _)), by simp, ?_⟩
 have key : a.length = b.length → ∀ n i, a.length - i = n → i ≤ a.length → (∀ j, j < i → lget a j = lget b j) → ∃ f, nsame.l0 (Res d sameS.news σ K) a b f (i : Int) := by
  intro hl n
  induction n with
  | zero =>
   intro i hn hi hp
   refine ⟨0 + 1, ?_⟩
   rw [nsame.l0_succ]
   refine ⟨fun q => ?_, fun _ => res_lit ?_ hK⟩
   ·rw [ilt_true, ofNat_def, llen_def] at q; omega
   ·have : a = b := by
     rw [eq_tab (l := a) rfl, eq_tab (l := b) rfl, ← hl]
     exact tab_ext fun j hj => hp j (by omega)
    rw [this, leq_self]
  | succ n ih =>
   intro i hn hi hp
   by_cases e : lget a i = lget b i
   ·obtain ⟨f, hf⟩ := ih (i + 1) (by omega) (by omega) (fun j hj => by
     by_cases c : j = i
     ·rw [c]; exact e
     ·exact hp j (by omega))
    refine ⟨f + 1, ?_⟩
    rw [nsame.l0_succ, add1_i64 (by omega), nat_cast]
    refine ⟨fun _ => ⟨⟨by omega, by rw [llen_def]; omega⟩, ⟨by omega, by rw [llen_def]; omega⟩, fun q => ?_, fun _ => hf⟩, fun q => ?_⟩
    ·rw [ine_true] at q; exact absurd e q
    ·rw [ilt_false, ofNat_def, llen_def] at q; omega
   ·refine ⟨0 + 1, ?_⟩
    rw [nsame.l0_succ, nat_cast]
    refine ⟨fun _ => ⟨⟨by omega, by rw [llen_def]; omega⟩, ⟨by omega, by rw [llen_def]; omega⟩, fun _ => res_lit ?_ hK, fun q => ?_⟩, fun q => ?_⟩
    ·symm; rw [leq_false]; intro c; exact e (by rw [c])
    ·rw [ine_false] at q; exact absurd q e
    ·rw [ilt_false, ofNat_def, llen_def] at q; omega
 by_cases hl : a.length = b.length
 ·obtain ⟨f, hf⟩ := key hl a.length 0 (by omega) (Nat.zero_le _) (fun j hj => by omega)
  refine ⟨f + 1, ?_⟩
  rw [nsame_vc]
  refine ⟨fun q => ?_, fun _ => hf⟩
  rw [ine_true, ofNat_def, ofNat_def, llen_def, llen_def] at q; omega
 ·refine ⟨0 + 1, ?_⟩
  rw [nsame_vc]
  refine ⟨fun _ => res_lit ?_ hK, fun q => ?_⟩
  ·symm; rw [leq_false]; intro c; exact hl (by rw [c])
  ·rw [ine_false, ofNat_def, ofNat_def, llen_def, llen_def] at q; omega
theorem gamN1_good : GoodG Try.prog gamN1 :=
 (((good0 _).ext good_fits ⟨_, Try.func18, by decide, by kernel_rfl⟩).ext good_weight ⟨_, Try.func28, by decide, by kernel_rfl⟩).ext good_same ⟨_, Try.func11, by decide, by kernel_rfl⟩
theorem good_upto : Sx.Good Try.prog 19 uptoS := by
 refine Sx.Good.pure (D := []) mixed gamN1_good Try.func19 (by kernel_rfl) rfl fun d args σ K h => ?_
 simp only [uptoS] at h
 split at h <;> try exact h.elim
 rename_i n d k
 obtain ⟨hf, hK⟩ := h
 obtain ⟨a, b, c, rfl, rfl, rfl, h1, h2, h3, h4⟩ := fit_nat hf
 refine ⟨by simp [plain_int], _, plain_int _ _, hK, (1 + 1 * (c + 1 - 0)) + 1, ?_⟩
 rw [nupto_vc]
 refine loop_n (fun f i x => nupto.l0 (fun av' _ => av' = .one (.int .i64 (suI (a : Int) (b : Int) (c : Int)))) (a : Int) (b : Int) (c : Int) f x i) (c + 1) (fun i => if i = 0 then 0 else ((su a b (i - 1) : Nat) : Int)) 1 1 (fun g i hi hg => ?_) ?_ 0 (Nat.zero_le _)
 ·rw [nupto.l0_succ]
  refine ⟨fun _ => ⟨⟨by omega, by omega, by omega, by omega, by omega, by omega⟩, ?_⟩, fun q => ?_⟩
  ·have hs := su_le h1 h2 i
   have hw := wt_le h1 h2 i
   have e : add .i64 (if i = 0 then (0 : Int) else ((su a b (i - 1) : Nat) : Int)) (wtI (a : Int) (b : Int) (i : Int)) = ((su a b i : Nat) : Int) := by
    show add .i64 _ ((wt a b i : Nat) : Int) = _
    cases i with
    | zero => rfl
    | succ i =>
     rw [if_neg (by omega), Nat.add_sub_cancel, addN_i64 (by simp only [su] at hs; omega)]; rfl
   rw [e, add1_i64 (by omega)]
   rw [if_neg (by omega), Nat.add_sub_cancel] at hg
   exact hg
  ·rw [ile_false] at q; omega
 ·rw [nupto.l0_succ]
  refine ⟨fun q => ?_, fun _ => ?_⟩
  ·rw [ile_true] at q; omega
  ·rw [if_neg (by omega), Nat.add_sub_cancel]; rfl
theorem gamN2_good : GoodG Try.prog gamN2 := gamN1_good.ext good_upto ⟨_, Try.func19, by decide, by kernel_rfl⟩
theorem tbl_at {a b i c : Nat} (h1 : a ≤ b) (h2 : 1 ≤ b) (hi : i ≤ 16) : quo .i64 (mul .i64 65536 ((su a b i : Nat) : Int)) ((su a b c : Nat) : Int) = ((65536 * su a b i / su a b c : Nat) : Int) := by
 have hs := su_le h1 h2 i
 have hm : (i + 1) * 4294967296 ≤ 17 * 4294967296 := Nat.mul_le_mul_right _ (by omega)
 have e : mul .i64 65536 ((su a b i : Nat) : Int) = ((65536 * su a b i : Nat) : Int) := mulN_i64 (a := 65536) (by omega)
 rw [e, quoN_i64 (by omega)]
theorem room8 {n : Nat} (h : n ≤ 100000) : Room n 8 := ⟨by omega⟩
theorem good_rtable : Sx.Good Try.prog 9 tableS := by
 refine Sx.Good.reads (D := [⟨9, [.ints .i64], true, false⟩]) mixed gamN2_good Try.func9 (by kernel_rfl) rfl fun e args σ K h => ?_
 simp only [tableS] at h
 split at h <;> try exact h.elim
 rename_i n d m
 by_cases hf : fitB n d m = true
 ·have hF := fitB_iff.1 hf
  obtain ⟨a, b, c, rfl, rfl, rfl, h1, h2, h3, h4⟩ := fit_nat hF
  refine ⟨_, [], .plain (plain_int _ _) (.plain (plain_int _ _) (.plain (plain_int _ _) (.nil _))), by simp, (1 + 1 * (c + 1 - 0)) + 1, ?_⟩
  rw [rtable_vc, hf]
  refine ⟨fun q => by simp [bnot] at q, fun _ => ⟨hF, ?_⟩⟩
  have hp := su_pos a b c
  refine loop_n (fun f i x => rtable.l0 (Res e tableS.news σ K) (a : Int) (b : Int) (c : Int) f i x) (c + 1) (fun i => tab i fun k => ((65536 * su a b k / su a b c : Nat) : Int)) 1 1 (fun g i hi hg => ?_) ?_ 0 (Nat.zero_le _)
  ·rw [rtable.l0_succ]
   refine ⟨fun _ => ⟨⟨by omega, by omega, by omega, by omega, by omega, by omega⟩, ⟨by show ((su a b c : Nat) : Int) ≠ 0; omega⟩, room8 (by rw [tab_llen, nadd_def, llen_def]; simp; omega), ?_⟩, fun q => ?_⟩
   ·have e : quo .i64 (mul .i64 65536 (suI (a : Int) (b : Int) (i : Int))) (suI (a : Int) (b : Int) (c : Int)) = ((65536 * su a b i / su a b c : Nat) : Int) := tbl_at h1 h2 (by omega)
    rw [e, add1_i64 (by omega), lcat_def, ← tab_succ i (fun k => ((65536 * su a b k / su a b c : Nat) : Int))]
    exact hg
   ·rw [ile_false] at q; omega
  ·rw [rtable.l0_succ]
   refine ⟨fun q => ?_, fun _ => ?_⟩
   ·rw [ile_true] at q; omega
   ·refine res_tvec rfl (.int ?_ .nil) ?_ h
    ·rw [tblE, if_pos hf]
    ·rw [tblL, if_pos hf]; rfl
 ·have hf' : fitB n d m = false := Bool.eq_false_iff.2 hf
  refine ⟨_, [], .plain (plain_int _ _) (.plain (plain_int _ _) (.plain (plain_int _ _) (.nil _))), by simp, 0 + 1, ?_⟩
  rw [rtable_vc, hf']
  refine ⟨fun _ => res_tnil (.int ?_ .nil) ?_ h, fun q => by simp [bnot] at q⟩
  ·rw [tblE, if_neg hf]
  ·rw [tblL, if_neg hf]
theorem good_ntable : Sx.Good Try.prog 10 tableS := by
 refine Sx.Good.reads (D := [⟨8, [.ints .i64], true, false⟩, ⟨12, [.ints .i64], true, false⟩]) mixed (good0 _) Try.func10 (by kernel_rfl) rfl fun e args σ K h => ?_
 simp only [tableS] at h
 split at h <;> try exact h.elim
 rename_i n d m
 refine ⟨_, [], .plain (plain_int _ _) (.plain (plain_int _ _) (.plain (plain_int _ _) (.nil _))), by simp, ?_⟩
 have no : ¬ Fit n d m → Res e tableS.news σ K (AV.tup [(TV.c (AC.con (Value.slice (Option.none) 0 0))), (TV.c (AC.int IntKind.i64 2))]) [] := fun q => by
  have hf : ¬ fitB n d m = true := fun c => q (fitB_iff.1 c)
  refine res_tnil (.int ?_ .nil) ?_ h
  ·rw [tblE, if_neg hf]
  ·rw [tblL, if_neg hf]
 have yes : Fit n d m → ∃ f, Mk 0 (add .i64 m 1) 8 ∧ ntable.l0 (Res e tableS.news σ K) n d m f 0 4294967296 (lzeros 0) := fun hF => by
  obtain ⟨a, b, c, rfl, rfl, rfl, h1, h2, h3, h4⟩ := fit_nat hF
  have hf := fitB_iff.2 hF
  have hp := su_pos a b c
  have hmk : Mk 0 (add .i64 (c : Int) 1) 8 := by rw [add1_i64 (by omega), Mk_iff]; omega
  have step : ntable.l1 (Res e tableS.news σ K) (c : Int) (tab (c + 1) fun k => ((su a b k : Nat) : Int)) (1 + 1 * (c + 1 - 0)) 0 (lzeros 0) := by
   refine loop_n (fun f i x => ntable.l1 (Res e tableS.news σ K) (c : Int) (tab (c + 1) fun k => ((su a b k : Nat) : Int)) f i x) (c + 1) (fun i => tab i fun k => ((65536 * su a b k / su a b c : Nat) : Int)) 1 1 (fun g i hi hg => ?_) ?_ 0 (Nat.zero_le _)
   ·rw [ntable.l1_succ]
    simp only [nat_cast, llen_def, tab_len]
    rw [tab_lget _ hi, tab_lget _ (by omega : c < c + 1), tbl_at h1 h2 (by omega), add1_i64 (by omega), lcat_def, ← tab_succ i (fun k => ((65536 * su a b k / su a b c : Nat) : Int))]
    refine ⟨fun _ => ⟨⟨by omega, by omega⟩, ⟨by omega, by omega⟩, ⟨by omega⟩, room8 (by rw [nadd_def]; simp; omega), hg⟩, fun q => ?_⟩
    rw [ilt_false, ofNat_def] at q; omega
   ·rw [ntable.l1_succ]
    refine ⟨fun q => ?_, fun _ => ?_⟩
    ·rw [ilt_true, ofNat_def, tab_llen] at q; omega
    ·refine res_tvec rfl (.int ?_ .nil) ?_ h
     ·rw [tblE, if_pos hf]
     ·rw [tblL, if_pos hf]; rfl
  refine ⟨(1 + 1 * (c + 1 - 0)) + 1 + 1 * (c + 1 - 0), hmk, ?_⟩
  refine loop_n (fun f i (x : Int × List Int) => ntable.l0 (Res e tableS.news σ K) (a : Int) (b : Int) (c : Int) f i x.1 x.2) (c + 1) (fun i => (((wt a b i : Nat) : Int), tab i fun k => ((su a b k : Nat) : Int))) 1 ((1 + 1 * (c + 1 - 0)) + 1) (fun g i hi hg => ?_) ?_ 0 (Nat.zero_le _)
  ·rw [ntable.l0_succ]
   have hw := wt_le h1 h2 i
   have hm : wt a b i * a ≤ 4294967296 * 1000 := Nat.mul_le_mul hw (by omega)
   have hroom : ∀ v : Int, Room (nadd (llen (tab i fun k => ((su a b k : Nat) : Int))) (llen [v])) 8 := fun v => room8 (by rw [tab_llen, nadd_def, llen_def]; simp; omega)
   have eq : quo .i64 (mul .i64 ((wt a b i : Nat) : Int) (a : Int)) (b : Int) = ((wt a b (i + 1) : Nat) : Int) := by rw [mulN_i64 (by omega), quoN_i64 (by omega)]; rfl
   rw [eq, add1_i64 (by omega)]
   refine ⟨fun _ => ⟨fun q => ?_, fun q => ?_⟩, fun q => ?_⟩
   ·rw [igt_true] at q
    obtain ⟨i, rfl⟩ : ∃ j, i = j + 1 := ⟨i - 1, by omega⟩
    have es : sub .i64 ((i + 1 : Nat) : Int) 1 = (i : Int) := by rw [sub_i64 (by omega) (by omega)]; omega
    have hs := su_le h1 h2 (i + 1)
    have hv : add .i64 ((wt a b (i + 1) : Nat) : Int) (lget (tab (i + 1) fun k => ((su a b k : Nat) : Int)) (nat (i : Int))) = ((su a b (i + 1) : Nat) : Int) := by
     have hb := su_le h1 h2 i
     have hm2 : (i + 1) * 4294967296 ≤ 17 * 4294967296 := Nat.mul_le_mul_right _ (by omega)
     rw [nat_cast, tab_lget _ (by omega), addN_i64 (by omega), Nat.add_comm]; rfl
    rw [es, hv, lcat_def, ← tab_succ (i + 1) (fun k => ((su a b k : Nat) : Int))]
    exact ⟨⟨by omega, by rw [tab_llen]; omega⟩, hroom _, ⟨by omega⟩, hg⟩
   ·rw [igt_false] at q
    obtain rfl : i = 0 := by omega
    exact ⟨hroom _, ⟨by omega⟩, hg⟩
   ·rw [ile_false] at q; omega
  ·rw [ntable.l0_succ]
   refine ⟨fun q => ?_, fun _ => ⟨hmk, step⟩⟩
   rw [ile_true] at q; omega
 by_cases hF : Fit n d m
 ·obtain ⟨f, hf⟩ := yes hF
  refine ⟨f + 1, ?_⟩
  rw [ntable_vc]
  have c1 := hF.n0; have c2 := hF.nd; have c3 := hF.d1; have c4 := hF.dk; have c5 := hF.m0; have c6 := hF.m16
  refine ⟨fun _ => ⟨fun _ => ⟨fun _ => ⟨fun _ => ⟨fun _ => ⟨fun q => ?_, fun _ => hf⟩, fun q => ?_⟩, fun q => ?_⟩, fun q => ?_⟩, fun q => ?_⟩, fun q => ?_⟩
  ·rw [igt_true] at q; omega
  ·rw [ilt_true] at q; omega
  ·rw [igt_true] at q; omega
  ·rw [ilt_true] at q; omega
  ·rw [igt_true] at q; omega
  ·rw [ilt_true] at q; omega
 ·refine ⟨0 + 1, ?_⟩
  rw [ntable_vc]
  have n0 := no hF
  refine ⟨fun a1 => ⟨fun a2 => ⟨fun a3 => ⟨fun a4 => ⟨fun a5 => ⟨fun _ => n0, fun a6 => ?_⟩, fun _ => n0⟩, fun _ => n0⟩, fun _ => n0⟩, fun _ => n0⟩, fun _ => n0⟩
  rw [ilt_false] at a1 a3 a5
  rw [igt_false] at a2 a4 a6
  exact absurd ⟨a1, a2, a3, a4, a5, a6⟩ hF
theorem gamN3_good : GoodG Try.prog gamN3 :=
 (gamN2_good.ext good_rtable ⟨_, Try.func9, by decide, by kernel_rfl⟩).ext good_ntable ⟨_, Try.func10, by decide, by kernel_rfl⟩
theorem short_tbl (n d m : Int) : Short (tblL n d m) := ⟨by have := tblL_len n d m; omega⟩
theorem good_awake : Sx.Good Try.prog 8 awakeS := by
 refine Sx.Good.pure2 (D := []) mixed gamN3_good Try.func8 (by kernel_rfl) rfl fun d args σ K h => ?_
 simp only [awakeS] at h
 split at h <;> try exact h.elim
 refine ⟨by simp, _, fun _ => rfl, h, 0 + 1, ?_⟩
 rw [nawake_vc]
 have e1 : tblE 1 2 3 = 0 := by decide
 have e2 : tblL 1 2 3 = [34952, 52428, 61166, 65536] := by decide +kernel
 refine ⟨fun _ => ⟨⟨short_tbl _ _ _, ⟨by decide⟩⟩, ?_⟩, fun q => ?_⟩
 ·rw [e2, leq_self]; exact fun ρ v h => h
 ·rw [e1] at q; cases q
theorem gamN4_good : GoodG Try.prog gamN4 := gamN3_good.ext good_awake ⟨_, Try.func8, by decide, by kernel_rfl⟩
def Yes : AV → Mem → Prop := fun av _ => av = .one (.bool true) ∨ av = .one (.lit true)
end Go.Proofs.Ytacnldmmacjpoaa.G
namespace Go.Sx
open Go
theorem bxor_i64 {a b : Nat} (ha : a < 9223372036854775808) (hb : b < 9223372036854775808) : bxor .i64 (a : Int) (b : Int) = ((a ^^^ b : Nat) : Int) := by
 have hx : a ^^^ b < 2 ^ 63 := Nat.xor_lt_two_pow (by omega) (by omega)
 show IntKind.i64.wrap ((BitVec.ofInt 64 (a : Int) ^^^ BitVec.ofInt 64 (b : Int)).toNat : Int) = _
 rw [BitVec.toNat_xor, ofInt_u64 a (by omega), ofInt_u64 b (by omega), IntKind.wrap_i64]
 omega
theorem bor_i64 {a b : Nat} (ha : a < 9223372036854775808) (hb : b < 9223372036854775808) : bor .i64 (a : Int) (b : Int) = ((a ||| b : Nat) : Int) := by
 have hx : a ||| b < 2 ^ 63 := Nat.or_lt_two_pow (by omega) (by omega)
 show IntKind.i64.wrap ((BitVec.ofInt 64 (a : Int) ||| BitVec.ofInt 64 (b : Int)).toNat : Int) = _
 rw [BitVec.toNat_or, ofInt_u64 a (by omega), ofInt_u64 b (by omega), IntKind.wrap_i64]
 omega
theorem shl_i64 {a n : Nat} (hn : n ≤ 64) (h : a * 2 ^ n < 9223372036854775808) : shl .i64 (a : Int) (n : Int) = ((a * 2 ^ n : Nat) : Int) := by
 unfold shl
 have : min (n : Int).toNat IntKind.i64.bits = n := by show min ((n : Int).toNat) 64 = n; omega
 rw [this]
 have e : (a : Int) * 2 ^ n = ((a * 2 ^ n : Nat) : Int) := by simp
 rw [e, IntKind.wrap_i64]
 omega
end Go.Sx
namespace Go.Nz
open Go.Sx
def tb (a b c j : Nat) : Nat := 65536 * su a b j / su a b c
theorem tblL_eq {a b c : Nat} (hf : fitB (a : Int) (b : Int) (c : Int) = true) : tblL (a : Int) (b : Int) (c : Int) = tab (c + 1) fun k => ((tb a b c k : Nat) : Int) := by rw [tblL, if_pos hf]; rfl
theorem tb_last (a b c : Nat) : tb a b c c = 65536 := by have := su_pos a b c; exact Nat.mul_div_cancel _ (by omega)
theorem uOf_bd {p : List Int} (h : Bs p) : ∃ u : Nat, uOf p = (u : Int) ∧ u < 65536 := by
 have h0 := h.get 0; have h1 := h.get 1
 refine ⟨(uOf p).toNat, ?_, ?_⟩ <;> simp only [uOf, lget] <;> omega
end Go.Nz
namespace Go.Proofs.Ytacnldmmacjpoaa.G
open Go Go.Sx Go.Nz
theorem cntE_eq (p : List Int) (n d m : Int) : cntE p n d m = if tblE n d m = 0 then (if p.length < 18 then 3 else 0) else tblE n d m := by
 unfold cntE tblE
 by_cases h : fitB n d m = true
 ·rw [if_pos h, if_pos h]; rfl
 ·rw [if_neg h, if_neg h]; rfl
section
variable {d : Nat} {σ : Mem} {K : AV → Mem → Prop} {p : List Int} {n b m : Int}
theorem cnt_res {k e : Int} {σ' : Mem} (hk : k = cntN p n b m) (he : e = cntE p n b m) (hK : K (.tup [.c (.int .i64 (cntN p n b m)), .c (.int .i64 (cntE p n b m))]) σ) : Res d 0 σ K (.tup [.c (.int .i64 k), .c (.int .i64 e)]) σ' := by
 subst hk he
 exact res_plain (av' := .tup [.c (.int .i64 (cntN p n b m)), .c (.int .i64 (cntE p n b m))]) (PlainT.int rfl (PlainT.int rfl PlainT.nil)).res hK
theorem or_add {x y : Nat} (hy : y < 256) : x * 2 ^ 8 ||| y = x * 256 + y := by
 rw [← Nat.shiftLeft_eq, ← Nat.shiftLeft_add_eq_or_of_lt (i := 8) (by omega), Nat.shiftLeft_eq]
theorem u_add (h : Bs p) : add .i64 (mul .i64 (conv .i64 (lget p 0)) 256) (conv .i64 (lget p 1)) = uOf p := by
 have h0 := h.get 0; have h1 := h.get 1
 simp only [uOf, lget]
 rw [conv_i64 (by omega) (by omega), conv_i64 (by omega) (by omega), mul_i64 (by omega) (by omega), add_i64 (by omega) (by omega)]
theorem u_or (h : Bs p) : bor .i64 (shl .i64 (conv .i64 (lget p 0)) 8) (conv .i64 (lget p 1)) = uOf p := by
 have h0 := h.get 0; have h1 := h.get 1
 obtain ⟨x, hx⟩ := Int.eq_ofNat_of_zero_le h0.1
 obtain ⟨y, hy⟩ := Int.eq_ofNat_of_zero_le h1.1
 simp only [uOf, lget]
 rw [conv_i64 (by omega) (by omega), conv_i64 (by omega) (by omega), hx, hy]
 rw [hx] at h0; rw [hy] at h1
 have e := shl_i64 (a := x) (n := 8) (by decide) (by omega)
 rw [show ((8 : Nat) : Int) = 8 from rfl] at e
 rw [e, bor_i64 (by omega) (by omega), or_add (by omega)]
 omega
end
theorem good_rcount : Sx.Good Try.prog 12 countS := by
 refine Sx.Good.reads (D := []) mixed gamN4_good Try.func12 (by kernel_rfl) rfl fun e args σ K h => ?_
 simp only [countS] at h
 split at h <;> try exact h.elim
 rename_i x n d m
 obtain ⟨p, ⟨⟨hs, hb⟩, hK⟩, hr⟩ := rdb_row h
 refine ⟨[.one (.vec 200000), .one (.int .i64 n), .one (.int .i64 d), .one (.int .i64 m)], [(200000, .rview [.ints .u8 p])], .row [.ints .u8] _ hr (by decide) (.plain (plain_int _ _) (.plain (plain_int _ _) (.plain (plain_int _ _) (.nil _)))), by simp, ?_⟩
 by_cases he : cntE p n d m = 0
 ·have hf : fitB n d m = true := by
   by_cases q : fitB n d m = true
   ·exact q
   ·rw [cntE, if_neg q] at he; cases he
  have hlen : ¬ p.length < 18 := fun q => by rw [cntE, if_pos hf, if_pos q] at he; cases he
  obtain ⟨a, b, c, rfl, rfl, rfl, h1, h2, h3, h4⟩ := fit_nat (fitB_iff.1 hf)
  obtain ⟨u, hu, hu2⟩ := uOf_bd hb
  have key : ∀ f k, f + k = c + 1 → k ≤ c → kFrom (tblL (a : Int) (b : Int) (c : Int)) (uOf p) f k = kOf (tblL (a : Int) (b : Int) (c : Int)) (uOf p) → ∃ g, rcount.l0 (Res e countS.news σ K) p (a : Int) (b : Int) (c : Int) g (k : Int) := by
   intro f
   induction f with
   | zero => intro k hk hc; omega
   | succ f ih =>
    intro k hk hc hq
    have hI : InB (k : Int) (llen (tblL (a : Int) (b : Int) (c : Int))) := ⟨by omega, by rw [tblL_eq hf, tab_llen]; omega⟩
    by_cases q : lget (tblL (a : Int) (b : Int) (c : Int)) k ≤ uOf p
    ·have hkc : k ≠ c := fun e => by rw [tblL_eq hf, tab_lget _ (by omega), e, tb_last] at q; omega
     obtain ⟨g, hg⟩ := ih (k + 1) (by omega) (by omega) (by rw [← hq, kFrom, if_pos q])
     refine ⟨g + 1, ?_⟩
     rw [rcount.l0_succ, u_add hb, nat_cast, add1_i64 (by omega)]
     refine ⟨hI, fun _ => hg, fun q2 => ?_⟩
     rw [ige_false] at q2; omega
    ·refine ⟨0 + 1, ?_⟩
     rw [rcount.l0_succ, u_add hb, nat_cast]
     refine ⟨hI, fun q2 => ?_, fun _ => cnt_res ?_ he.symm hK⟩
     ·rw [ige_true] at q2; omega
     ·rw [cntN, if_pos he, ← hq, kFrom, if_neg q]
  obtain ⟨g, hg⟩ := key (c + 1) 0 (by omega) (Nat.zero_le _) (by rw [kOf, tblL_eq hf, tab_len])
  have hE : tblE (a : Int) (b : Int) (c : Int) = 0 := by rw [tblE, if_pos hf]
  refine ⟨g + 1, ?_⟩
  rw [rcount_vc, hE]
  refine ⟨fun q => by rw [ine_true] at q; exact absurd rfl q, fun _ => ⟨fun q => ?_, fun _ => ⟨⟨by decide, by rw [llen_def]; omega⟩, ⟨by decide, by rw [llen_def]; omega⟩, hg⟩⟩⟩
  rw [ilt_true, ofNat_def, llen_def] at q; omega
 ·refine ⟨0 + 1, ?_⟩
  rw [rcount_vc]
  have hN : (0 : Int) = cntN p n d m := by rw [cntN, if_neg he]
  refine ⟨fun q => cnt_res hN ?_ hK, fun q => ⟨fun q2 => cnt_res hN ?_ hK, fun q2 => ?_⟩⟩
  ·rw [ine_true] at q; rw [cntE_eq, if_neg q]
  ·rw [ine_false] at q; rw [ilt_true, ofNat_def, llen_def] at q2; rw [cntE_eq, if_pos q, if_pos (by omega)]
  ·rw [ine_false] at q; rw [ilt_false, ofNat_def, llen_def] at q2
   exact absurd (by rw [cntE_eq, if_pos q, if_neg (by omega)]) he
theorem good_ncount : Sx.Good Try.prog 13 countS := by
 refine Sx.Good.reads (D := []) mixed gamN4_good Try.func13 (by kernel_rfl) rfl fun e args σ K h => ?_
 simp only [countS] at h
 split at h <;> try exact h.elim
 rename_i x n d m
 obtain ⟨p, ⟨⟨hs, hb⟩, hK⟩, hr⟩ := rdb_row h
 refine ⟨[.one (.vec 200000), .one (.int .i64 n), .one (.int .i64 d), .one (.int .i64 m)], [(200000, .rview [.ints .u8 p])], .row [.ints .u8] _ hr (by decide) (.plain (plain_int _ _) (.plain (plain_int _ _) (.plain (plain_int _ _) (.nil _)))), by simp, ?_⟩
 by_cases he : cntE p n d m = 0
 ·have hf : fitB n d m = true := by
   by_cases q : fitB n d m = true
   ·exact q
   ·rw [cntE, if_neg q] at he; cases he
  have hlen : ¬ p.length < 18 := fun q => by rw [cntE, if_pos hf, if_pos q] at he; cases he
  obtain ⟨a, b, c, rfl, rfl, rfl, h1, h2, h3, h4⟩ := fit_nat (fitB_iff.1 hf)
  obtain ⟨u, hu, hu2⟩ := uOf_bd hb
  have key : ∀ f k, f + k = c + 1 → k ≤ c → kFrom (tblL (a : Int) (b : Int) (c : Int)) (uOf p) f k = kOf (tblL (a : Int) (b : Int) (c : Int)) (uOf p) → ∃ g, ncount.l0 (Res e countS.news σ K) p (a : Int) (b : Int) (c : Int) g (k : Int) := by
   intro f
   induction f with
   | zero => intro k hk hc; omega
   | succ f ih =>
    intro k hk hc hq
    have hI : InB (k : Int) (llen (tblL (a : Int) (b : Int) (c : Int))) := ⟨by omega, by rw [tblL_eq hf, tab_llen]; omega⟩
    by_cases q : lget (tblL (a : Int) (b : Int) (c : Int)) k ≤ uOf p
    ·have hkc : k ≠ c := fun e => by rw [tblL_eq hf, tab_lget _ (by omega), e, tb_last] at q; omega
     obtain ⟨g, hg⟩ := ih (k + 1) (by omega) (by omega) (by rw [← hq, kFrom, if_pos q])
     refine ⟨g + 1, ?_⟩
     rw [ncount.l0_succ, u_or hb, nat_cast, add1_i64 (by omega)]
     refine ⟨hI, fun _ => hg, fun q2 => ?_⟩
     rw [ige_false] at q2; omega
    ·refine ⟨0 + 1, ?_⟩
     rw [ncount.l0_succ, u_or hb, nat_cast]
     refine ⟨hI, fun q2 => ?_, fun _ => cnt_res ?_ he.symm hK⟩
     ·rw [ige_true] at q2; omega
     ·rw [cntN, if_pos he, ← hq, kFrom, if_neg q]
  obtain ⟨g, hg⟩ := key (c + 1) 0 (by omega) (Nat.zero_le _) (by rw [kOf, tblL_eq hf, tab_len])
  have hE : tblE (a : Int) (b : Int) (c : Int) = 0 := by rw [tblE, if_pos hf]
  refine ⟨g + 1, ?_⟩
  rw [ncount_vc, hE]
  refine ⟨fun q => by rw [ine_true] at q; exact absurd rfl q, fun _ => ⟨fun q => ?_, fun _ => ⟨⟨by decide, by rw [llen_def]; omega⟩, ⟨by decide⟩, ⟨by decide, by rw [llen_def]; omega⟩, hg⟩⟩⟩
  rw [ilt_true, ofNat_def, llen_def] at q; omega
 ·refine ⟨0 + 1, ?_⟩
  rw [ncount_vc]
  have hN : (0 : Int) = cntN p n d m := by rw [cntN, if_neg he]
  refine ⟨fun q => cnt_res hN ?_ hK, fun q => ⟨fun q2 => cnt_res hN ?_ hK, fun q2 => ?_⟩⟩
  ·rw [ine_true] at q; rw [cntE_eq, if_neg q]
  ·rw [ine_false] at q; rw [ilt_true, ofNat_def, llen_def] at q2; rw [cntE_eq, if_pos q, if_pos (by omega)]
  ·rw [ine_false] at q; rw [ilt_false, ofNat_def, llen_def] at q2
   exact absurd (by rw [cntE_eq, if_pos q, if_neg (by omega)]) he
theorem gamN5_good : GoodG Try.prog gamN5 :=
 (gamN4_good.ext good_rcount ⟨_, Try.func12, by decide, by kernel_rfl⟩).ext good_ncount ⟨_, Try.func13, by decide, by kernel_rfl⟩
end Go.Proofs.Ytacnldmmacjpoaa.G
namespace Go.Fld
def xt (a : Nat) : Nat := if a < 128 then 2 * a else (2 * a - 256) ^^^ 27
def gl : Nat → Nat → Nat → Nat → Nat
 | 0, _, _, s => s
 | d + 1, a, b, s => gl d (xt a) (b / 2) (if b % 2 = 1 then s ^^^ a else s)
def gm (a b : Nat) : Nat := gl 8 a b 0
theorem xt_lt {a : Nat} (h : a < 256) : xt a < 256 := by
 unfold xt
 split
 ·omega
 ·exact Nat.xor_lt_two_pow (n := 8) (by omega) (by omega)
theorem xor_lt {a b : Nat} (ha : a < 256) (hb : b < 256) : a ^^^ b < 256 := Nat.xor_lt_two_pow (n := 8) ha hb
theorem gl_lt : ∀ (d a b s : Nat), a < 256 → s < 256 → gl d a b s < 256
 | 0, _, _, _, _, hs => hs
 | d + 1, a, b, s, ha, hs => by
  simp only [gl]
  refine gl_lt d _ _ _ (xt_lt ha) ?_
  split
  ·exact xor_lt hs ha
  ·exact hs
theorem gm_lt {a b : Nat} (ha : a < 256) : gm a b < 256 := gl_lt 8 a b 0 ha (by omega)
def il : Nat → Nat → Nat → Nat
 | 0, p, _ => p
 | d + 1, p, q => il d (gm p (gm q q)) (gm q q)
def gi (a : Nat) : Nat := il 7 1 a
theorem il_lt : ∀ (d p q : Nat), p < 256 → il d p q < 256
 | 0, _, _, h => h
 | d + 1, p, q, h => by simp only [il]; exact il_lt d _ _ (gm_lt h)
theorem gi_lt (a : Nat) : gi a < 256 := il_lt 7 1 a (by omega)
def turn (b n : Nat) : Nat := (b * 2 ^ n % 256) ||| (b / 2 ^ (8 - n))
def gs (a : Nat) : Nat := let b := gi a; b ^^^ turn b 1 ^^^ turn b 2 ^^^ turn b 3 ^^^ turn b 4 ^^^ 99
def gu (a : Nat) : Nat := gi (turn a 1 ^^^ turn a 3 ^^^ turn a 6 ^^^ 5)
def fmul (a b : Int) : Int := (gm a.toNat b.toNat : Nat)
def finv (a : Int) : Int := (gi a.toNat : Nat)
def fsub (a : Int) : Int := (gs a.toNat : Nat)
def funsub (a : Int) : Int := (gu a.toNat : Nat)
def fturn (a n : Int) : Int := (turn a.toNat n.toNat : Nat)
structure Byte (a : Int) : Prop where
 lo : 0 ≤ a
 hi : a < 256
theorem Byte.nat {a : Int} (h : Byte a) : ∃ n : Nat, n < 256 ∧ a = (n : Int) := ⟨a.toNat, by have := h.lo; have := h.hi; omega, by have := h.lo; omega⟩
theorem Byte.of {n : Nat} (h : n < 256) : Byte (n : Int) := ⟨by omega, by omega⟩
theorem turn_lt {b n : Nat} (hb : b < 256) : turn b n < 256 := Nat.or_lt_two_pow (n := 8) (Nat.mod_lt _ (by decide)) (Nat.lt_of_le_of_lt (Nat.div_le_self _ _) hb)
theorem gs_lt (a : Nat) : gs a < 256 := by
 have h := gi_lt a
 have t := fun n => turn_lt (n := n) h
 exact xor_lt (xor_lt (xor_lt (xor_lt (xor_lt h (t 1)) (t 2)) (t 3)) (t 4)) (by decide)
end Go.Fld
namespace Go.Sx
open Go.Fld
def bin8 (val : Int → Int → Int) : Spec := ⟨0, false, fun _ args σ K => match args with
 | [.one (.int .u8 a), .one (.int .u8 b)] => (Byte a ∧ Byte b) ∧ K (.one (.int .u8 (val a b))) σ
 | _ => False⟩
def un8 (val : Int → Int) : Spec := ⟨0, false, fun _ args σ K => match args with
 | [.one (.int .u8 a)] => Byte a ∧ K (.one (.int .u8 (val a))) σ
 | _ => False⟩
def turnS : Spec := ⟨0, false, fun _ args σ K => match args with
 | [.one (.int .u8 a), .one (.int .i64 n)] => (Byte a ∧ InB n 9) ∧ K (.one (.int .u8 (fturn a n))) σ
 | _ => False⟩
def gam1 : Gam := ext (ext gam0 41 (bin8 fmul)) 43 turnS
def gam2 : Gam := ext gam1 42 (un8 finv)
def gam3 : Gam := ext gam2 34 (un8 fsub)
def gam4 : Gam := gam3
end Go.Sx
namespace Go.Fld
def gp (a : Nat) : Nat → Nat
 | 0 => 1
 | n + 1 => gm (gp a n) a
def ml (c f : List Nat) (r : Nat) : Nat → Nat → Nat → Nat
 | 0, _, s => s
 | d + 1, i, s => ml c f r d (i + 1) (s ^^^ gm (f.getD ((i + 4 - r) % 4) 0) (c.getD i 0))
def mix1 (c f : List Nat) (r : Nat) : Nat := ml c f r 4 0 0
def mixN (c f : List Nat) : List Nat := [mix1 c f 0, mix1 c f 1, mix1 c f 2, mix1 c f 3]
def intL (l : List Nat) : List Int := l.map fun (n : Nat) => (n : Int)
def natL (l : List Int) : List Nat := l.map Int.toNat
def fmix (c f : List Int) : List Int := intL (mixN (natL c) (natL f))
structure FCol (c : List Int) : Prop where
 len : c.length = 4
 all : ∀ x ∈ c, Byte x
end Go.Fld
namespace Go.Sx
open Go.Fld
def mixS : Spec := ⟨0, false, fun _ args σ K => match args with
 | [.agg [.ints .u8 4 c], .agg [.ints .u8 4 f]] => (FCol c ∧ FCol f) ∧ K (.agg [.ints .u8 4 (fmix c f)]) σ
 | _ => False⟩
def colS (f : List Int) : Spec := ⟨0, false, fun _ args σ K => match args with
 | [.agg [.ints .u8 4 c]] => FCol c ∧ K (.agg [.ints .u8 4 (fmix c f)]) σ
 | _ => False⟩
def gam5 : Gam := ext gam4 52 mixS
def gam6 : Gam := ext gam4 48 (colS [2, 3, 1, 1])
end Go.Sx
namespace Go.Blk
open Go Go.Sx Go.Fld
structure BL (n : Nat) (l : List Int) : Prop where
 len : l.length = n
 all : ∀ x ∈ l, Byte x
theorem BL.get {n : Nat} {l : List Int} (h : BL n l) (i : Nat) : Byte (lget l i) := by
 unfold lget
 rw [List.getD_eq_getElem?_getD]
 cases hq : l[i]? with
 | none => exact ⟨by simp, by simp⟩
 | some x => exact h.all x (List.mem_of_getElem? hq)
theorem BL.tab {n : Nat} {g : Nat → Int} (h : ∀ i, i < n → Byte (g i)) : BL n (tab n g) := ⟨tab_len n g, fun x hx => by
 obtain ⟨i, hi, rfl⟩ := List.mem_map.1 hx
 exact h i (by simpa using hi)⟩
theorem BL.eq {n : Nat} {l : List Int} (h : BL n l) : l = Sx.tab n (lget l) := eq_tab h.len
theorem byte_xor {a b : Int} (ha : Byte a) (hb : Byte b) : Byte (bxor .u8 a b) := by
 obtain ⟨x, hx, rfl⟩ := ha.nat
 obtain ⟨y, hy, rfl⟩ := hb.nat
 rw [bxor_u8 hx hy]
 exact Byte.of (xor_lt hx hy)
theorem byte_sub {a : Int} : Byte (fsub a) := Byte.of (gs_lt _)
theorem byte_mul {a b : Int} (ha : Byte a) : Byte (fmul a b) := by
 obtain ⟨x, hx, rfl⟩ := ha.nat
 exact Byte.of (gm_lt hx)
def qx (b k : List Int) : List Int := tab 16 fun j => bxor .u8 (lget b j) (lget k j)
def qe (f : Int → Int) (b : List Int) : List Int := tab 16 fun j => f (lget b j)
def qt (n : Nat) (b : List Int) : List Int := tab 16 fun j => lget b (4 * ((j / 4 + j % 4 * n) % 4) + j % 4)
def qc (f b : List Int) : List Int := tab 16 fun j => lget (fmix (lsub b (j / 4 * 4) 4) f) (j % 4)
def rcon : Nat → Int
 | 0 => 1
 | n + 1 => fmul 2 (rcon n)
theorem rcon_byte : ∀ n, Byte (rcon n)
 | 0 => ⟨by decide, by decide⟩
 | n + 1 => byte_mul ⟨by decide, by decide⟩
def kt (i : Nat) (p : Nat → Int) (j : Nat) : Int :=
 if i % 4 = 0 then (if j = 0 then bxor .u8 (fsub (p 1)) (rcon (i / 4 - 1)) else fsub (p ((j + 1) % 4))) else p j
def kws (key : List Int) : Nat → Nat → Nat → Int
 | 0, _, _ => 0
 | n + 1, i, j => if i < n then kws key n i j else if n < 4 then lget key (4 * n + j) else bxor .u8 (kws key n (n - 4) j) (kt n (kws key n (n - 1)) j)
def kw (key : List Int) (i j : Nat) : Int := kws key (i + 1) i j
def ks (key : List Int) : List Int := tab 176 fun p => kw key (p / 4) (p % 4)
def rk (w : List Int) (i : Nat) : List Int := lsub w (16 * i) 16
theorem kws_stable (key : List Int) : ∀ (n m i j : Nat), i < n → n ≤ m → kws key m i j = kws key n i j := by
 intro n m i j hi hm
 induction m with
 | zero => omega
 | succ m ih =>
  by_cases h : n = m + 1
  ·rw [h]
  ·rw [← ih (by omega)]
   show (if i < m then kws key m i j else _) = _
   rw [if_pos (by omega)]
theorem kws_kw (key : List Int) (n i j : Nat) (h : i < n) : kws key n i j = kw key i j := kws_stable key (i + 1) n i j (by omega) (by omega)
theorem kw_lo (key : List Int) {i : Nat} (j : Nat) (h : i < 4) : kw key i j = lget key (4 * i + j) := by
 unfold kw kws; rw [if_neg (by omega), if_pos h]
theorem kt_congr {i : Nat} {p q : Nat → Int} (h : ∀ j, j < 4 → p j = q j) {j : Nat} (hj : j < 4) : kt i p j = kt i q j := by
 unfold kt
 split
 ·split
  ·rw [h 1 (by omega)]
  ·rw [h _ (by omega)]
 ·exact h j hj
theorem kw_hi (key : List Int) {i j : Nat} (h : 4 ≤ i) (hj : j < 4) : kw key i j = bxor .u8 (kw key (i - 4) j) (kt i (kw key (i - 1)) j) := by
 unfold kw
 rw [kws, if_neg (by omega), if_neg (by omega), kws_kw key i (i - 4) j (by omega), kt_congr (fun a _ => kws_kw key i (i - 1) a (by omega)) hj]
 rfl
theorem kw_byte {key : List Int} (hk : BL 16 key) : ∀ i j, j < 4 → Byte (kw key i j) := by
 intro i
 induction i using Nat.strongRecOn with
 | _ i ih =>
  intro j hj
  by_cases h : i < 4
  ·rw [kw_lo _ _ h]; exact hk.get _
  ·rw [kw_hi _ (by omega) hj]
   refine byte_xor (ih _ (by omega) _ hj) ?_
   unfold kt
   split
   ·split
    ·exact byte_xor byte_sub (rcon_byte _)
    ·exact byte_sub
   ·exact ih _ (by omega) _ hj
theorem ks_bl {key : List Int} (hk : BL 16 key) : BL 176 (ks key) := BL.tab fun i hi => kw_byte hk _ _ (by omega)
def encN (w : List Int) : Nat → Nat → List Int → List Int
 | 0, _, x => x
 | n + 1, i, x =>
  let y := qt 1 (qe fsub x)
  encN w n (i + 1) (qx (if i < 10 then qc [2, 3, 1, 1] y else y) (rk w i))
def enc (w b : List Int) : List Int := encN w 10 1 (qx b (rk w 0))
def decN (w : List Int) : Nat → List Int → List Int
 | 0, x => x
 | n + 1, x =>
  let y := qx (qe funsub (qt 3 x)) (rk w n)
  decN w n (if 1 < n + 1 then qc [14, 11, 13, 9] y else y)
def upN : Nat → List Int → List Int
 | 0, b => b
 | i + 1, b => if add .u8 (lget b i) 1 = 0 then upN i (lset b i (add .u8 (lget b i) 1)) else lset b i (add .u8 (lget b i) 1)
def up (b : List Int) : List Int := upN 16 b
def ups (b : List Int) : Nat → List Int
 | 0 => b
 | n + 1 => up (ups b n)
def strB (w s : List Int) (i : Nat) : Int := lget (enc w (ups s (i / 16))) (i % 16)
def mask (w s p : List Int) : List Int := tab p.length fun i => bxor .u8 (lget p i) (strB w s i)
end Go.Blk
namespace Go.Blk
def boxC : ByteArray := (ByteArray.mk (Array.mk [99, 124, 119, 123, 242, 107, 111, 197, 48, 1, 103, 43, 254, 215, 171, 118, 202, 130, 201, 125, 250, 89, 71, 240, 173, 212, 162, 175, 156, 164, 114, 192, 183, 253, 147, 38, 54, 63, 247, 204, 52, 165, 229, 241, 113, 216, 49, 21, 4, 199, 35, 195, 24, 150, 5, 154, 7, 18, 128, 226, 235, 39, 178, 117, 9, 131, 44, 26, 27, 110, 90, 160, 82, 59, 214, 179, 41, 227, 47, 132, 83, 209, 0, 237, 32, 252, 177, 91, 106, 203, 190, 57, 74, 76, 88, 207, 208, 239, 170, 251, 67, 77, 51, 133, 69, 249, 2, 127, 80, 60, 159, 168, 81, 163, 64, 143, 146, 157, 56, 245, 188, 182, 218, 33, 16, 255, 243, 210, 205, 12, 19, 236, 95, 151, 68, 23, 196, 167, 126, 61, 100, 93, 25, 115, 96, 129, 79, 220, 34, 42, 144, 136, 70, 238, 184, 20, 222, 94, 11, 219, 224, 50, 58, 10, 73, 6, 36, 92, 194, 211, 172, 98, 145, 149, 228, 121, 231, 200, 55, 109, 141, 213, 78, 169, 108, 86, 244, 234, 101, 122, 174, 8, 186, 120, 37, 46, 28, 166, 180, 198, 232, 221, 116, 31, 75, 189, 139, 138, 112, 62, 181, 102, 72, 3, 246, 14, 97, 53, 87, 185, 134, 193, 29, 158, 225, 248, 152, 17, 105, 217, 142, 148, 155, 30, 135, 233, 206, 85, 40, 223, 140, 161, 137, 13, 191, 230, 66, 104, 65, 153, 45, 15, 176, 84, 187, 22]))
end Go.Blk
namespace Go.Sx
open Go.Fld Go.Blk
def withS : Spec := ⟨0, false, fun _ args σ K => match args with
 | [.agg [.ints .u8 16 b], .agg [.ints .u8 16 k]] => (BL 16 b ∧ BL 16 k) ∧ K (.agg [.ints .u8 16 (qx b k)]) σ
 | _ => False⟩
def turnedS : Spec := ⟨0, false, fun _ args σ K => match args with
 | [.agg [.ints .u8 16 b], .one (.int .i64 n)] => (BL 16 b ∧ InB n 4) ∧ K (.agg [.ints .u8 16 (qt (nat n) b)]) σ
 | _ => False⟩
def subOf (g : Nat) : Option (Int → Int) := if g = 34 then some fsub else none
structure Tbl (t : List Int) : Prop where
 len : t.length = 256
 at_ : ∀ i, i < 256 → lget t i = fsub (i : Int)
def conFn : AV → Option Nat
 | .one (.con (.func (.func g) a b)) => match a.toList, b.toList with
  | [], [] => some g
  | _, _ => none
 | _ => none
def isTold : AV → Option Nat
 | .one (.clo g n b i) => match Nat.beq g 35, b, i with
  | true, 0, 0 => some n
  | _, _, _ => none
 | _ => none
def fnx (σ : Mem) (x : AV) (K : (Int → Int) → Prop) : Prop :=
 match conFn x with
 | some g => match subOf g with
  | some f => K f
  | none => False
 | none => match isTold x with
  | some n => match Mem.find σ n with
   | some b => match b.segs with
    | [.ints .u8 256 t] => Tbl t ∧ K fsub
    | _ => False
   | none => False
  | none => False
theorem conFn_eq {x : AV} {g : Nat} (h : conFn x = some g) : x = .one (.con (.func (.func g) #[] #[])) := by
 unfold conFn at h
 split at h
 ·rename_i g' a b
  split at h
  ·rename_i ha hb
   cases h
   rw [Array.toList_eq_nil_iff.1 ha, Array.toList_eq_nil_iff.1 hb]
  ·cases h
 ·cases h
theorem isTold_eq {x : AV} {n : Nat} (h : isTold x = some n) : x = .one (.clo 35 n 0 0) := by
 unfold isTold at h
 split at h
 ·rename_i g n' b i
  split at h
  ·rename_i hg; cases h; rw [beq_nat hg]
  ·cases h
 ·cases h
def eachSp : Spec := ⟨0, false, fun _ args σ K => match args with
 | [.agg [.ints .u8 16 b], x] => fnx σ x fun f => BL 16 b ∧ K (.agg [.ints .u8 16 (qe f b)]) σ
 | _ => False⟩
def colOf (g : Nat) : Option (List Int) := if g = 48 then some [2, 3, 1, 1] else none
def columnsS : Spec := ⟨0, false, fun _ args σ K => match args with
 | [.agg [.ints .u8 16 b], x] => match (conFn x).bind colOf with
  | some f => BL 16 b ∧ K (.agg [.ints .u8 16 (qc f b)]) σ
  | none => False
 | _ => False⟩
def tblS : Spec := ⟨0, false, fun _ args σ K => match args with
 | [.one (.int .u8 a), .one (.ptr n 0 0)] => match Mem.find σ n with
  | some b => match b.segs with
   | [.ints .u8 256 t] => (Byte a ∧ Tbl t) ∧ K (.one (.int .u8 (fsub a))) σ
   | _ => False
  | none => False
 | _ => False⟩
def keysS : Spec := ⟨0, false, fun _ args σ K => match args with
 | [.agg [.ints .u8 16 b]] => BL 16 b ∧ K (.agg [.ints .u8 176 (ks b)]) σ
 | _ => False⟩
def nextS : Spec := ⟨0, false, fun _ args σ K => match args with
 | [.agg [.ints .u8 16 b]] => BL 16 b ∧ K (.agg [.ints .u8 16 (up b)]) σ
 | _ => False⟩
def twiceS : Spec := ⟨0, false, fun _ args σ K => match args with
 | [.one (.int .u8 b)] => Byte b ∧ K (.one (.int .u8 (fmul 2 b))) σ
 | _ => False⟩
def addedS : Spec := ⟨0, false, fun _ args σ K => match args with
 | [.agg [.ints .u8 16 b], .agg [.ints .u8 176 w], .one (.int .i64 i)] => ((BL 16 b ∧ BL 176 w) ∧ InB i 11) ∧ K (.agg [.ints .u8 16 (qx b (rk w (nat i)))]) σ
 | _ => False⟩
def mixedS : Spec := ⟨0, false, fun _ args σ K => match args with
 | [.agg [.ints .u8 16 b]] => BL 16 b ∧ K (.agg [.ints .u8 16 (qc [2, 3, 1, 1] b)]) σ
 | _ => False⟩
def gamB1 : Gam := ext (ext gam6 35 tblS) 49 twiceS
def gamB2 : Gam := ext (ext (ext (ext (ext (ext gamB1 44 withS) 46 turnedS) 45 eachSp) 47 columnsS) 33 keysS) 37 nextS
def gamB3 : Gam := ext (ext (ext (ext gamB2 38 keysS) 50 addedS) 51 mixedS) 40 nextS
end Go.Sx
namespace Go.Proofs.Ytacnldmmacjpoaa.G
open Go Go.Sx Go.Fld Go.Blk
set_option maxRecDepth 100000
def bwith.l0 (R : AV → Mem → Prop) (k : List Int) (fuel : Nat) (x0 : Int) (x1 : List Int) : Prop := run Try.prog gam0 [] (resh Try.prog [] Try.f44.results.toList R) fuel [kc Try.f44 [1,0,1,0,0],ki Try.f44 [1,0,1,0,0],.inBlock 0,kc Try.f44 [1,1]] (Uu::Uu::AV.one (AC.ptr 2 0 0)::AV.one (AC.ptr 3 0 0)::AV.one (AC.ptr 4 0 0)::Uu::Ii x0::(us 11 [Zz])) [(2,Blk.own 59 [Seg.ints IntKind.u8 16 x1]),(3,Blk.own 59 [Seg.ints IntKind.u8 16 k]),(4,Blk.own 59 [Seg.ints IntKind.u8 16 (lzeros 16)])]
theorem bwith.l0_succ (R : AV → Mem → Prop) (k : List Int) (fuel : Nat) (x0 : Int) (x1 : List Int) : bwith.l0 R k (fuel + 1) x0 x1 = (((((ilt x0 16) = true) → ((InB x0 16) ∧ ((Low (nadd 0 (nat x0)) 16) ∧ ((InB x0 16) ∧ ((Low (nadd 0 (nat x0)) 16) ∧ ((InB x0 16) ∧ ((Low (nadd 0 (nat x0)) 16) ∧ (bwith.l0 R k fuel (add IntKind.i64 x0 1) (lset x1 (nadd 0 (nat x0)) (bxor IntKind.u8 (lget x1 (nadd 0 (nat x0))) (lget k (nadd 0 (nat x0))))))))))))) ∧ (((ilt x0 16) = false) → (R (AV.agg [Seg.ints IntKind.u8 16 x1]) [(2,Blk.own 59 [Seg.ints IntKind.u8 16 x1]),(3,Blk.own 59 [Seg.ints IntKind.u8 16 k]),(4,Blk.own 59 [Seg.ints IntKind.u8 16 x1])])))) := by kernel_rfl
theorem bwith_vc (R : AV → Mem → Prop) (fuel : Nat) (b : List Int) (k : List Int) : callsx Try.prog gam0 [] Try.f44 (fuel + 1) [.agg [.ints .u8 16 b], .agg [.ints .u8 16 k]] [] R = ((bwith.l0 R k fuel 0 b)) := by kernel_rfl
theorem told_vc (R : AV → Mem → Prop) (fuel : Nat) (t : List Int) (a : Int) : callsx Try.prog gam0 [] Try.f35 (fuel + 1) [.one (.int .u8 a), .one (.ptr 200001 0 0)] [(200001, .view [.ints .u8 256 t])] R = (((InB a 256) ∧ ((Low (nadd 0 (nat a)) 256) ∧ (R (AV.one (AC.int IntKind.u8 (lget t (nadd 0 (nat a))))) [(200001, Blk.view [(Seg.ints IntKind.u8 256 t)])])))) := by kernel_rfl
def eachS.l0 (R : AV → Mem → Prop)  (fuel : Nat) (x0 : Int) (x1 : List Int) : Prop := run Try.prog gamB1 [] (resh Try.prog [] Try.f45.results.toList R) fuel [kc Try.f45 [1,0,1,0,0],ki Try.f45 [1,0,1,0,0],.inBlock 0,kc Try.f45 [1,1]] (Uu::AV.one (AC.con (Value.func (Fn.func 34) (List.toArray []) (List.toArray [])))::AV.one (AC.ptr 2 0 0)::Uu::AV.one (AC.ptr 4 0 0)::Uu::Ii x0::(us 10 [Zz])) [(2,Blk.own 59 [Seg.ints IntKind.u8 16 x1]),(4,Blk.own 59 [Seg.ints IntKind.u8 16 (lzeros 16)])]
theorem eachS.l0_succ (R : AV → Mem → Prop)  (fuel : Nat) (x0 : Int) (x1 : List Int) : eachS.l0 R  (fuel + 1) x0 x1 = (((((ilt x0 16) = true) → ((InB x0 16) ∧ ((Low (nadd 0 (nat x0)) 16) ∧ ((Byte (lget x1 (nadd 0 (nat x0)))) ∧ ((InB x0 16) ∧ ((Low (nadd 0 (nat x0)) 16) ∧ (eachS.l0 R  fuel (add IntKind.i64 x0 1) (lset x1 (nadd 0 (nat x0)) (fsub (lget x1 (nadd 0 (nat x0)))))))))))) ∧ (((ilt x0 16) = false) → (R (AV.agg [Seg.ints IntKind.u8 16 x1]) [(2,Blk.own 59 [Seg.ints IntKind.u8 16 x1]),(4,Blk.own 59 [Seg.ints IntKind.u8 16 x1])])))) := by kernel_rfl
theorem eachS_vc (R : AV → Mem → Prop) (fuel : Nat) (b : List Int) : callsx Try.prog gamB1 [] Try.f45 (fuel + 1) [.agg [.ints .u8 16 b], .one (.con (.func (.func 34) #[] #[]))] [] R = ((eachS.l0 R  fuel 0 b)) := by kernel_rfl
def eachT.l0 (R : AV → Mem → Prop) (t : List Int) (fuel : Nat) (x0 : Int) (x1 : List Int) : Prop := run Try.prog gamB1 [] (resh Try.prog [] Try.f45.results.toList R) fuel [kc Try.f45 [1,0,1,0,0],ki Try.f45 [1,0,1,0,0],.inBlock 0,kc Try.f45 [1,1]] (Uu::AV.one (AC.clo 35 200001 0 0)::AV.one (AC.ptr 2 0 0)::Uu::AV.one (AC.ptr 4 0 0)::Uu::Ii x0::(us 10 [Zz])) [(2,Blk.own 59 [Seg.ints IntKind.u8 16 x1]),(4,Blk.own 59 [Seg.ints IntKind.u8 16 (lzeros 16)]),(200001,Blk.view [Seg.ints IntKind.u8 256 t])]
theorem eachT.l0_succ (R : AV → Mem → Prop) (t : List Int) (fuel : Nat) (x0 : Int) (x1 : List Int) : eachT.l0 R t (fuel + 1) x0 x1 = (((((ilt x0 16) = true) → ((InB x0 16) ∧ ((Low (nadd 0 (nat x0)) 16) ∧ (((Byte (lget x1 (nadd 0 (nat x0)))) ∧ (Tbl t)) ∧ ((InB x0 16) ∧ ((Low (nadd 0 (nat x0)) 16) ∧ (eachT.l0 R t fuel (add IntKind.i64 x0 1) (lset x1 (nadd 0 (nat x0)) (fsub (lget x1 (nadd 0 (nat x0)))))))))))) ∧ (((ilt x0 16) = false) → (R (AV.agg [Seg.ints IntKind.u8 16 x1]) [(2,Blk.own 59 [Seg.ints IntKind.u8 16 x1]),(4,Blk.own 59 [Seg.ints IntKind.u8 16 x1]),(200001,Blk.view [Seg.ints IntKind.u8 256 t])])))) := by kernel_rfl
theorem eachT_vc (R : AV → Mem → Prop) (fuel : Nat) (b : List Int) (t : List Int) : callsx Try.prog gamB1 [] Try.f45 (fuel + 1) [.agg [.ints .u8 16 b], .one (.clo 35 200001 0 0)] [(200001, .view [.ints .u8 256 t])] R = ((eachT.l0 R t fuel 0 b)) := by kernel_rfl
def bturned.l1 (R : AV → Mem → Prop) (n x0 : Int) (b : List Int) (fuel : Nat) (x2 : Int) (x3 : List Int) : Prop := run Try.prog gam0 [] (resh Try.prog [] Try.f46.results.toList R) fuel [kc Try.f46 [1,1,0,1,0,0,1,1,0,0,1,1,0,0],ki Try.f46 [1,1,0,1,0,0,1,1,0,0,1,1,0,0],.inBlock 2,.inBlock 1,kc Try.f46 [1,1,0,1,0,0,1,1,1],ki Try.f46 [1,1,0,1,0,0],.inBlock 0,kc Try.f46 [1,1,1]] (Uu::Ii n::AV.one (AC.ptr 2 0 0)::Uu::AV.one (AC.ptr 4 0 0)::AV.one (AC.ptr 5 0 0)::Ii x0::Uu::Ii x0::Ll true::Ii x0::Ii x2::(us 20 [Zz])) [(2,Blk.own 59 [Seg.ints IntKind.u8 16 b]),(4,Blk.own 59 [Seg.ints IntKind.u8 16 (lzeros 16)]),(5,Blk.own 59 [Seg.ints IntKind.u8 16 x3])]
def bturned.l0 (R : AV → Mem → Prop) (n : Int) (b : List Int) (fuel : Nat) (x0 : Int) (x1 : List Int) : Prop := run Try.prog gam0 [] (resh Try.prog [] Try.f46.results.toList R) fuel [kc Try.f46 [1,1,0,1,0,0],ki Try.f46 [1,1,0,1,0,0],.inBlock 0,kc Try.f46 [1,1,1]] (Uu::Ii n::AV.one (AC.ptr 2 0 0)::Uu::AV.one (AC.ptr 4 0 0)::AV.one (AC.ptr 5 0 0)::Uu::Uu::Ii x0::(us 23 [Zz])) [(2,Blk.own 59 [Seg.ints IntKind.u8 16 b]),(4,Blk.own 59 [Seg.ints IntKind.u8 16 (lzeros 16)]),(5,Blk.own 59 [Seg.ints IntKind.u8 16 x1])]
theorem bturned.l1_succ (R : AV → Mem → Prop) (n x0 : Int) (b : List Int) (fuel : Nat) (x2 : Int) (x3 : List Int) : bturned.l1 R n x0 b (fuel + 1) x2 x3 = (((((ilt x2 4) = true) → ((NeZ 4) ∧ ((InB (add IntKind.i64 (mul IntKind.i64 4 (rem (add IntKind.i64 x2 (mul IntKind.i64 x0 n)) 4)) x0) 16) ∧ ((Low (nadd 0 (nat (add IntKind.i64 (mul IntKind.i64 4 (rem (add IntKind.i64 x2 (mul IntKind.i64 x0 n)) 4)) x0))) 16) ∧ ((InB (add IntKind.i64 (mul IntKind.i64 4 x2) x0) 16) ∧ ((Low (nadd 0 (nat (add IntKind.i64 (mul IntKind.i64 4 x2) x0))) 16) ∧ (bturned.l1 R n x0 b fuel (add IntKind.i64 x2 1) (lset x3 (nadd 0 (nat (add IntKind.i64 (mul IntKind.i64 4 x2) x0))) (lget b (nadd 0 (nat (add IntKind.i64 (mul IntKind.i64 4 (rem (add IntKind.i64 x2 (mul IntKind.i64 x0 n)) 4)) x0)))))))))))) ∧ (((ilt x2 4) = false) → (bturned.l0 R n b fuel (add IntKind.i64 x0 1) x3)))) := by kernel_rfl
theorem bturned.l0_succ (R : AV → Mem → Prop) (n : Int) (b : List Int) (fuel : Nat) (x0 : Int) (x1 : List Int) : bturned.l0 R n b (fuel + 1) x0 x1 = (((((ilt x0 4) = true) → (bturned.l1 R n x0 b fuel 0 x1)) ∧ (((ilt x0 4) = false) → (R (AV.agg [Seg.ints IntKind.u8 16 x1]) [(2,Blk.own 59 [Seg.ints IntKind.u8 16 b]),(4,Blk.own 59 [Seg.ints IntKind.u8 16 x1]),(5,Blk.own 59 [Seg.ints IntKind.u8 16 x1])])))) := by kernel_rfl
theorem bturned_vc (R : AV → Mem → Prop) (fuel : Nat) (b : List Int) (n : Int) : callsx Try.prog gam0 [] Try.f46 (fuel + 1) [.agg [.ints .u8 16 b], .one (.int .i64 n)] [] R = ((bturned.l0 R n b fuel 0 (lzeros 16))) := by kernel_rfl
def colsC.l0 (R : AV → Mem → Prop)  (fuel : Nat) (x0 : Int) (x1 : List Int) : Prop := run Try.prog gam6 [] (resh Try.prog [] Try.f47.results.toList R) fuel [kc Try.f47 [1,0,1,0,0],ki Try.f47 [1,0,1,0,0],.inBlock 0,kc Try.f47 [1,1]] (Uu::AV.one (AC.con (Value.func (Fn.func 48) (List.toArray []) (List.toArray [])))::AV.one (AC.ptr 2 0 0)::Uu::AV.one (AC.ptr 4 0 0)::Ii x0::(us 17 [Zz])) [(2,Blk.own 59 [Seg.ints IntKind.u8 16 x1]),(4,Blk.own 59 [Seg.ints IntKind.u8 16 (lzeros 16)])]
theorem colsC.l0_succ (R : AV → Mem → Prop)  (fuel : Nat) (x0 : Int) (x1 : List Int) : colsC.l0 R  (fuel + 1) x0 x1 = (((((ilt x0 16) = true) → ((((NonNeg (add IntKind.i64 x0 4)) ∧ (Fits (nat (add IntKind.i64 x0 4)) 16)) ∧ ((NonNeg x0) ∧ (Fits (nat x0) (nat (add IntKind.i64 x0 4))))) ∧ ((Fits 4 (nsub (nat (add IntKind.i64 x0 4)) (nat x0))) ∧ ((Fits (nadd (nadd 0 (nat x0)) 4) 16) ∧ ((FCol (lsub x1 (nadd 0 (nat x0)) 4)) ∧ (((NonNeg x0) ∧ (Fits (nat x0) 16)) ∧ ((Fits 4 4) ∧ ((Fits (nadd (nadd 0 (nat x0)) (nsub 16 (nat x0))) 16) ∧ (colsC.l0 R  fuel (add IntKind.i64 x0 4) (lput x1 (nadd 0 (nat x0)) (lsub (lsub (fmix (lsub x1 (nadd 0 (nat x0)) 4) [2,3,1,1]) 0 4) 0 (nmin (llen (lsub (fmix (lsub x1 (nadd 0 (nat x0)) 4) [2,3,1,1]) 0 4)) (nsub 16 (nat x0)))))))))))))) ∧ (((ilt x0 16) = false) → (R (AV.agg [Seg.ints IntKind.u8 16 x1]) [(2,Blk.own 59 [Seg.ints IntKind.u8 16 x1]),(4,Blk.own 59 [Seg.ints IntKind.u8 16 x1])])))) := by kernel_rfl
theorem colsC_vc (R : AV → Mem → Prop) (fuel : Nat) (b : List Int) : callsx Try.prog gam6 [] Try.f47 (fuel + 1) [.agg [.ints .u8 16 b], .one (.con (.func (.func 48) #[] #[]))] [] R = ((colsC.l0 R  fuel 0 b)) := by kernel_rfl
def bNew.l2 (R : AV → Mem → Prop) (x2 x3 : Int) (x4 : List Int) (fuel : Nat) (x5 : Int) (x6 : List Int) : Prop := run Try.prog gam6 [] (resh Try.prog [] Try.f33.results.toList R) fuel [kc Try.f33 [1,1,1,1,0,1,0,0,1,0,0,1,1,1,0,0],ki Try.f33 [1,1,1,1,0,1,0,0,1,0,0,1,1,1,0,0],.inBlock 4,.inBlock 3,kc Try.f33 [1,1,1,1,0,1,0,0,1,1],ki Try.f33 [1,1,1,1,0,1,0,0],.inBlock 2,kc Try.f33 [1,1,1,1,1]] (Uu::Uu::AV.one (AC.ptr 2 0 0)::AV.one (AC.ptr 3 0 0)::Uu::AV.one (AC.int IntKind.u8 (fmul 2 x2))::Ii x3::AV.one (AC.ptr 7 0 0)::Uu::Zz::Zz::Zz::(us 11 (Ii x3::Ll true::Uu::Uu::Ii x3::Ii (sub IntKind.i64 x3 1)::AV.one (AC.ptr 3 0 (nadd 0 (nmul (nat (sub IntKind.i64 x3 1)) 4)))::(AV.agg [Seg.ints IntKind.u8 4 (lsub x4 (nadd 0 (nmul (nat (sub IntKind.i64 x3 1)) 4)) 4)])::Ii x3::Ii (rem x3 4)::Ll true::AV.one (AC.ptr 7 0 1)::AV.one (AC.int IntKind.u8 (lget (lsub x4 (nadd 0 (nmul (nat (sub IntKind.i64 x3 1)) 4)) 4) 1))::AV.one (AC.int IntKind.u8 (fsub (lget (lsub x4 (nadd 0 (nmul (nat (sub IntKind.i64 x3 1)) 4)) 4) 1)))::AV.one (AC.int IntKind.u8 x2)::AV.one (AC.int IntKind.u8 (bxor IntKind.u8 (fsub (lget (lsub x4 (nadd 0 (nmul (nat (sub IntKind.i64 x3 1)) 4)) 4) 1)) x2))::AV.one (AC.ptr 7 0 2)::AV.one (AC.int IntKind.u8 (lget (lsub x4 (nadd 0 (nmul (nat (sub IntKind.i64 x3 1)) 4)) 4) 2))::AV.one (AC.int IntKind.u8 (fsub (lget (lsub x4 (nadd 0 (nmul (nat (sub IntKind.i64 x3 1)) 4)) 4) 2)))::AV.one (AC.ptr 7 0 3)::AV.one (AC.int IntKind.u8 (lget (lsub x4 (nadd 0 (nmul (nat (sub IntKind.i64 x3 1)) 4)) 4) 3))::AV.one (AC.int IntKind.u8 (fsub (lget (lsub x4 (nadd 0 (nmul (nat (sub IntKind.i64 x3 1)) 4)) 4) 3)))::AV.one (AC.ptr 7 0 0)::AV.one (AC.int IntKind.u8 (lget (lsub x4 (nadd 0 (nmul (nat (sub IntKind.i64 x3 1)) 4)) 4) 0))::AV.one (AC.int IntKind.u8 (fsub (lget (lsub x4 (nadd 0 (nmul (nat (sub IntKind.i64 x3 1)) 4)) 4) 0)))::(AV.agg [Seg.ints IntKind.u8 4 (lset (lset (lset (lset (lzeros 4) 0 (bxor IntKind.u8 (fsub (lget (lsub x4 (nadd 0 (nmul (nat (sub IntKind.i64 x3 1)) 4)) 4) 1)) x2)) 1 (fsub (lget (lsub x4 (nadd 0 (nmul (nat (sub IntKind.i64 x3 1)) 4)) 4) 2))) 2 (fsub (lget (lsub x4 (nadd 0 (nmul (nat (sub IntKind.i64 x3 1)) 4)) 4) 3))) 3 (fsub (lget (lsub x4 (nadd 0 (nmul (nat (sub IntKind.i64 x3 1)) 4)) 4) 0)))])::AV.one (AC.int IntKind.u8 x2)::AV.one (AC.int IntKind.u8 (fmul 2 x2))::Ii x5::(us 17 (zs 14 [Uu,Zz,Zz]))))) [(2,Blk.own 62 [Seg.ints IntKind.u8 176 (lzeros 176)]),(3,Blk.own 72 [Seg.ints IntKind.u8 176 x6]),(7,Blk.own 71 [Seg.ints IntKind.u8 4 (lset (lset (lset (lset (lzeros 4) 0 (bxor IntKind.u8 (fsub (lget (lsub x4 (nadd 0 (nmul (nat (sub IntKind.i64 x3 1)) 4)) 4) 1)) x2)) 1 (fsub (lget (lsub x4 (nadd 0 (nmul (nat (sub IntKind.i64 x3 1)) 4)) 4) 2))) 2 (fsub (lget (lsub x4 (nadd 0 (nmul (nat (sub IntKind.i64 x3 1)) 4)) 4) 3))) 3 (fsub (lget (lsub x4 (nadd 0 (nmul (nat (sub IntKind.i64 x3 1)) 4)) 4) 0)))])]
def bNew.l3 (R : AV → Mem → Prop) (x2 x3 : Int) (x4 : List Int) (fuel : Nat) (x7 : Int) (x8 : List Int) : Prop := run Try.prog gam6 [] (resh Try.prog [] Try.f33.results.toList R) fuel [kc Try.f33 [1,1,1,1,0,1,0,0,1,0,0,1,1,1,0,0],ki Try.f33 [1,1,1,1,0,1,0,0,1,0,0,1,1,1,0,0],.inBlock 4,.inBlock 3,kc Try.f33 [1,1,1,1,0,1,0,0,1,1],ki Try.f33 [1,1,1,1,0,1,0,0],.inBlock 2,kc Try.f33 [1,1,1,1,1]] (Uu::Uu::AV.one (AC.ptr 2 0 0)::AV.one (AC.ptr 3 0 0)::Uu::AV.one (AC.int IntKind.u8 x2)::Ii x3::AV.one (AC.ptr 7 0 0)::Uu::Zz::Zz::Zz::(us 11 (Ii x3::Ll true::Uu::Uu::Ii x3::Ii (sub IntKind.i64 x3 1)::AV.one (AC.ptr 3 0 (nadd 0 (nmul (nat (sub IntKind.i64 x3 1)) 4)))::(AV.agg [Seg.ints IntKind.u8 4 (lsub x4 (nadd 0 (nmul (nat (sub IntKind.i64 x3 1)) 4)) 4)])::Ii x3::Ii (rem x3 4)::Ll false::(us 17 (Ii x7::(us 17 (zs 14 [Uu,Zz,Zz]))))))) [(2,Blk.own 62 [Seg.ints IntKind.u8 176 (lzeros 176)]),(3,Blk.own 72 [Seg.ints IntKind.u8 176 x8]),(7,Blk.own 71 [Seg.ints IntKind.u8 4 (lsub x4 (nadd 0 (nmul (nat (sub IntKind.i64 x3 1)) 4)) 4)])]
def bNew.l4 (R : AV → Mem → Prop) (x4 : List Int) (fuel : Nat) (x9 : Int) (x10 : List Int) : Prop := run Try.prog gam6 [] (resh Try.prog [] Try.f33.results.toList R) fuel [kc Try.f33 [1,1,1,1,1,1,0,1,0,0],ki Try.f33 [1,1,1,1,1,1,0,1,0,0],.inBlock 6,kc Try.f33 [1,1,1,1,1,1,1]] (Uu::Uu::AV.one (AC.ptr 2 0 0)::(us 6 (AV.one (AC.ptr 9 0 0)::(us 59 ((AV.agg [Seg.ints IntKind.u8 176 x4])::Ii x9::(us 14 [Zz])))))) [(2,Blk.own 62 [Seg.ints IntKind.u8 176 (lzeros 176)]),(9,Blk.own 62 [Seg.ints IntKind.u8 176 x10])]
def bNew.l1 (R : AV → Mem → Prop)  (fuel : Nat) (x2 x3 : Int) (x4 : List Int) : Prop := run Try.prog gam6 [] (resh Try.prog [] Try.f33.results.toList R) fuel [kc Try.f33 [1,1,1,1,0,1,0,0],ki Try.f33 [1,1,1,1,0,1,0,0],.inBlock 2,kc Try.f33 [1,1,1,1,1]] (Uu::Uu::AV.one (AC.ptr 2 0 0)::AV.one (AC.ptr 3 0 0)::Uu::AV.one (AC.int IntKind.u8 x2)::Ii x3::Uu::Uu::Zz::Zz::Zz::(us 57 (zs 14 [Uu,Zz,Zz]))) [(2,Blk.own 62 [Seg.ints IntKind.u8 176 (lzeros 176)]),(3,Blk.own 72 [Seg.ints IntKind.u8 176 x4])]
def bNew.l0 (R : AV → Mem → Prop) (b : List Int) (fuel : Nat) (x0 : Int) (x1 : List Int) : Prop := run Try.prog gam6 [] (resh Try.prog [] Try.f33.results.toList R) fuel [kc Try.f33 [1,1,0,1,0,0],ki Try.f33 [1,1,0,1,0,0],.inBlock 0,kc Try.f33 [1,1,1]] (Uu::AV.one (AC.ptr 1 0 0)::AV.one (AC.ptr 2 0 0)::AV.one (AC.ptr 3 0 0)::Uu::(zs 7 (Ii x0::(us 10 (zs 60 [Uu,Zz,Zz]))))) [(1,Blk.own 52 [Seg.ints IntKind.u8 16 b]),(2,Blk.own 62 [Seg.ints IntKind.u8 176 (lzeros 176)]),(3,Blk.own 72 [Seg.ints IntKind.u8 176 x1])]
theorem bNew.l2_succ (R : AV → Mem → Prop) (x2 x3 : Int) (x4 : List Int) (fuel : Nat) (x5 : Int) (x6 : List Int) : bNew.l2 R x2 x3 x4 (fuel + 1) x5 x6 = (((((ilt x5 4) = true) → ((InB (sub IntKind.i64 x3 4) 44) ∧ ((InB x5 4) ∧ ((Low (nadd (nadd 0 (nmul (nat (sub IntKind.i64 x3 4)) 4)) (nat x5)) 176) ∧ ((InB x5 4) ∧ ((Low (nadd 0 (nat x5)) 4) ∧ ((InB x3 44) ∧ ((InB x5 4) ∧ ((Low (nadd (nadd 0 (nmul (nat x3) 4)) (nat x5)) 176) ∧ (bNew.l2 R x2 x3 x4 fuel (add IntKind.i64 x5 1) (lset x6 (nadd (nadd 0 (nmul (nat x3) 4)) (nat x5)) (bxor IntKind.u8 (lget x6 (nadd (nadd 0 (nmul (nat (sub IntKind.i64 x3 4)) 4)) (nat x5))) (lget (lset (lset (lset (lset (lzeros 4) 0 (bxor IntKind.u8 (fsub (lget (lsub x4 (nadd 0 (nmul (nat (sub IntKind.i64 x3 1)) 4)) 4) 1)) x2)) 1 (fsub (lget (lsub x4 (nadd 0 (nmul (nat (sub IntKind.i64 x3 1)) 4)) 4) 2))) 2 (fsub (lget (lsub x4 (nadd 0 (nmul (nat (sub IntKind.i64 x3 1)) 4)) 4) 3))) 3 (fsub (lget (lsub x4 (nadd 0 (nmul (nat (sub IntKind.i64 x3 1)) 4)) 4) 0))) (nadd 0 (nat x5))))))))))))))) ∧ (((ilt x5 4) = false) → (bNew.l1 R  fuel (fmul 2 x2) (add IntKind.i64 x3 1) x6)))) := by kernel_rfl
theorem bNew.l3_succ (R : AV → Mem → Prop) (x2 x3 : Int) (x4 : List Int) (fuel : Nat) (x7 : Int) (x8 : List Int) : bNew.l3 R x2 x3 x4 (fuel + 1) x7 x8 = (((((ilt x7 4) = true) → ((InB (sub IntKind.i64 x3 4) 44) ∧ ((InB x7 4) ∧ ((Low (nadd (nadd 0 (nmul (nat (sub IntKind.i64 x3 4)) 4)) (nat x7)) 176) ∧ ((InB x7 4) ∧ ((Low (nadd 0 (nat x7)) 4) ∧ ((InB x3 44) ∧ ((InB x7 4) ∧ ((Low (nadd (nadd 0 (nmul (nat x3) 4)) (nat x7)) 176) ∧ (bNew.l3 R x2 x3 x4 fuel (add IntKind.i64 x7 1) (lset x8 (nadd (nadd 0 (nmul (nat x3) 4)) (nat x7)) (bxor IntKind.u8 (lget x8 (nadd (nadd 0 (nmul (nat (sub IntKind.i64 x3 4)) 4)) (nat x7))) (lget (lsub x4 (nadd 0 (nmul (nat (sub IntKind.i64 x3 1)) 4)) 4) (nadd 0 (nat x7))))))))))))))) ∧ (((ilt x7 4) = false) → (bNew.l1 R  fuel x2 (add IntKind.i64 x3 1) x8)))) := by kernel_rfl
theorem bNew.l4_succ (R : AV → Mem → Prop) (x4 : List Int) (fuel : Nat) (x9 : Int) (x10 : List Int) : bNew.l4 R x4 (fuel + 1) x9 x10 = (((((ilt x9 44) = true) → ((InB x9 44) ∧ ((NeZ 4) ∧ ((InB (quo IntKind.i64 x9 4) 11) ∧ ((NeZ 4) ∧ (((NonNeg (mul IntKind.i64 (rem x9 4) 4)) ∧ (Fits (nat (mul IntKind.i64 (rem x9 4) 4)) 16)) ∧ ((Fits 4 4) ∧ ((Fits (nadd (nadd (nadd 0 (nmul (nat (quo IntKind.i64 x9 4)) 16)) (nat (mul IntKind.i64 (rem x9 4) 4))) (nsub 16 (nat (mul IntKind.i64 (rem x9 4) 4)))) 176) ∧ (bNew.l4 R x4 fuel (add IntKind.i64 x9 1) (lput x10 (nadd (nadd 0 (nmul (nat (quo IntKind.i64 x9 4)) 16)) (nat (mul IntKind.i64 (rem x9 4) 4))) (lsub (lsub (lsub x4 (nmul (nat x9) 4) 4) 0 4) 0 (nmin (llen (lsub (lsub x4 (nmul (nat x9) 4) 4) 0 4)) (nsub 16 (nat (mul IntKind.i64 (rem x9 4) 4))))))))))))))) ∧ (((ilt x9 44) = false) → (R (AV.agg [Seg.ints IntKind.u8 176 x10]) [(2,Blk.own 62 [Seg.ints IntKind.u8 176 x10]),(9,Blk.own 62 [Seg.ints IntKind.u8 176 x10])])))) := by kernel_rfl
theorem bNew.l1_succ (R : AV → Mem → Prop)  (fuel : Nat) (x2 x3 : Int) (x4 : List Int) : bNew.l1 R  (fuel + 1) x2 x3 x4 = (((((ilt x3 44) = true) → ((InB (sub IntKind.i64 x3 1) 44) ∧ ((Fits (nadd (nadd 0 (nmul (nat (sub IntKind.i64 x3 1)) 4)) 4) 176) ∧ ((NeZ 4) ∧ ((((ieq (rem x3 4) 0) = true) → ((InB 1 4) ∧ ((Low 1 4) ∧ ((InB 2 4) ∧ ((Low 2 4) ∧ ((InB 3 4) ∧ ((Low 3 4) ∧ ((InB 0 4) ∧ ((Low 0 4) ∧ ((Byte (lget (lsub x4 (nadd 0 (nmul (nat (sub IntKind.i64 x3 1)) 4)) 4) 1)) ∧ ((Byte (lget (lsub x4 (nadd 0 (nmul (nat (sub IntKind.i64 x3 1)) 4)) 4) 2)) ∧ ((Byte (lget (lsub x4 (nadd 0 (nmul (nat (sub IntKind.i64 x3 1)) 4)) 4) 3)) ∧ ((Byte (lget (lsub x4 (nadd 0 (nmul (nat (sub IntKind.i64 x3 1)) 4)) 4) 0)) ∧ ((Low 0 4) ∧ ((Low 1 4) ∧ ((Low 2 4) ∧ ((Low 3 4) ∧ (((Byte 2) ∧ (Byte x2)) ∧ (bNew.l2 R x2 x3 x4 fuel 0 x4))))))))))))))))))) ∧ (((ieq (rem x3 4) 0) = false) → (bNew.l3 R x2 x3 x4 fuel 0 x4))))))) ∧ (((ilt x3 44) = false) → (bNew.l4 R x4 fuel 0 (lzeros 176))))) := by kernel_rfl
theorem bNew.l0_succ (R : AV → Mem → Prop) (b : List Int) (fuel : Nat) (x0 : Int) (x1 : List Int) : bNew.l0 R b (fuel + 1) x0 x1 = (((((ilt x0 4) = true) → ((InB x0 44) ∧ (((NonNeg (mul IntKind.i64 4 x0)) ∧ (Fits (nat (mul IntKind.i64 4 x0)) 16)) ∧ ((Fits (nadd (nadd 0 (nat (mul IntKind.i64 4 x0))) (nsub 16 (nat (mul IntKind.i64 4 x0)))) 16) ∧ ((Fits (nadd (nadd 0 (nmul (nat x0) 4)) 4) 176) ∧ (bNew.l0 R b fuel (add IntKind.i64 x0 1) (lput x1 (nadd 0 (nmul (nat x0) 4)) (lsub (lsub b (nadd 0 (nat (mul IntKind.i64 4 x0))) (nsub 16 (nat (mul IntKind.i64 4 x0)))) 0 (nmin (llen (lsub b (nadd 0 (nat (mul IntKind.i64 4 x0))) (nsub 16 (nat (mul IntKind.i64 4 x0))))) 4))))))))) ∧ (((ilt x0 4) = false) → (bNew.l1 R  fuel 1 4 x1)))) := by kernel_rfl
theorem bNew_vc (R : AV → Mem → Prop) (fuel : Nat) (b : List Int) : callsx Try.prog gam6 [] Try.f33 (fuel + 1) [.agg [.ints .u8 16 b]] [] R = ((bNew.l0 R b fuel 0 (lzeros 176))) := by kernel_rfl
def bnext.l0 (R : AV → Mem → Prop)  (fuel : Nat) (x0 : Int) (x1 : List Int) : Prop := run Try.prog gam0 [] (resh Try.prog [] Try.f37.results.toList R) fuel [kc Try.f37 [1,0,1,0,0],ki Try.f37 [1,0,1,0,0],.inBlock 0,kc Try.f37 [1,1]] (Uu::AV.one (AC.ptr 1 0 0)::AV.one (AC.ptr 2 0 0)::Ii x0::(us 13 [Zz])) [(1,Blk.own 52 [Seg.ints IntKind.u8 16 x1]),(2,Blk.own 52 [Seg.ints IntKind.u8 16 (lzeros 16)])]
theorem bnext.l0_succ (R : AV → Mem → Prop)  (fuel : Nat) (x0 : Int) (x1 : List Int) : bnext.l0 R  (fuel + 1) x0 x1 = (((((ige x0 0) = true) → ((InB x0 16) ∧ ((Low (nadd 0 (nat x0)) 16) ∧ ((InB x0 16) ∧ ((Low (nadd 0 (nat x0)) 16) ∧ ((InB x0 16) ∧ ((Low (nadd 0 (nat x0)) 16) ∧ ((((ine (lget (lset x1 (nadd 0 (nat x0)) (add IntKind.u8 (lget x1 (nadd 0 (nat x0))) 1)) (nadd 0 (nat x0))) 0) = true) → (R (AV.agg [Seg.ints IntKind.u8 16 (lset x1 (nadd 0 (nat x0)) (add IntKind.u8 (lget x1 (nadd 0 (nat x0))) 1))]) [(1,Blk.own 52 [Seg.ints IntKind.u8 16 (lset x1 (nadd 0 (nat x0)) (add IntKind.u8 (lget x1 (nadd 0 (nat x0))) 1))]),(2,Blk.own 52 [Seg.ints IntKind.u8 16 (lset x1 (nadd 0 (nat x0)) (add IntKind.u8 (lget x1 (nadd 0 (nat x0))) 1))])])) ∧ (((ine (lget (lset x1 (nadd 0 (nat x0)) (add IntKind.u8 (lget x1 (nadd 0 (nat x0))) 1)) (nadd 0 (nat x0))) 0) = false) → (bnext.l0 R  fuel (sub IntKind.i64 x0 1) (lset x1 (nadd 0 (nat x0)) (add IntKind.u8 (lget x1 (nadd 0 (nat x0))) 1)))))))))))) ∧ (((ige x0 0) = false) → (R (AV.agg [Seg.ints IntKind.u8 16 x1]) [(1,Blk.own 52 [Seg.ints IntKind.u8 16 x1]),(2,Blk.own 52 [Seg.ints IntKind.u8 16 x1])])))) := by kernel_rfl
theorem bnext_vc (R : AV → Mem → Prop) (fuel : Nat) (b : List Int) : callsx Try.prog gam0 [] Try.f37 (fuel + 1) [.agg [.ints .u8 16 b]] [] R = ((bnext.l0 R  fuel 15 b)) := by kernel_rfl
end Go.Proofs.Ytacnldmmacjpoaa.G
namespace Go.Proofs.Ytacnldmmacjpoaa.G
open Go Go.Sx Go.Fld
set_option maxRecDepth 100000
def Mul.l0 (R : AV → Mem → Prop)  (fuel : Nat) (x0 x1 x2 x3 : Int) : Prop := run Try.prog gam0 [] (resh Try.prog [] Try.f41.results.toList R) fuel [kc Try.f41 [1,1,0,1,0,0],ki Try.f41 [1,1,0,1,0,0],.inBlock 0,kc Try.f41 [1,1,1]] (AV.one (AC.int IntKind.u8 x0)::AV.one (AC.int IntKind.u8 x1)::Uu::Uu::Uu::AV.one (AC.int IntKind.u8 x2)::Uu::Ii x3::(us 18 [Zz])) []
theorem Mul.l0_succ (R : AV → Mem → Prop)  (fuel : Nat) (x0 x1 x2 x3 : Int) : Mul.l0 R  (fuel + 1) x0 x1 x2 x3 = (((((ilt x3 8) = true) → ((((ieq (band IntKind.u8 x1 1) 1) = true) → ((NonNeg 1) ∧ ((NonNeg 1) ∧ ((((ine (band IntKind.u8 x0 128) 0) = true) → (Mul.l0 R  fuel (bxor IntKind.u8 (shl IntKind.u8 x0 1) 27) (shr IntKind.u8 x1 1) (bxor IntKind.u8 x2 x0) (add IntKind.i64 x3 1))) ∧ (((ine (band IntKind.u8 x0 128) 0) = false) → (Mul.l0 R  fuel (shl IntKind.u8 x0 1) (shr IntKind.u8 x1 1) (bxor IntKind.u8 x2 x0) (add IntKind.i64 x3 1))))))) ∧ (((ieq (band IntKind.u8 x1 1) 1) = false) → ((NonNeg 1) ∧ ((NonNeg 1) ∧ ((((ine (band IntKind.u8 x0 128) 0) = true) → (Mul.l0 R  fuel (bxor IntKind.u8 (shl IntKind.u8 x0 1) 27) (shr IntKind.u8 x1 1) x2 (add IntKind.i64 x3 1))) ∧ (((ine (band IntKind.u8 x0 128) 0) = false) → (Mul.l0 R  fuel (shl IntKind.u8 x0 1) (shr IntKind.u8 x1 1) x2 (add IntKind.i64 x3 1))))))))) ∧ (((ilt x3 8) = false) → (R (AV.one (AC.int IntKind.u8 x2)) [])))) := by kernel_rfl
theorem Mul_vc (R : AV → Mem → Prop) (fuel : Nat) (a : Int) (b : Int) : callsx Try.prog gam0 [] Try.f41 (fuel + 1) [.one (.int .u8 a), .one (.int .u8 b)] [] R = ((Mul.l0 R  fuel a b 0 0)) := by kernel_rfl
theorem turned_vc (R : AV → Mem → Prop) (fuel : Nat) (a : Int) (b : Int) : callsx Try.prog gam0 [] Try.f43 (fuel + 1) [.one (.int .u8 a), .one (.int .i64 b)] [] R = (((NonNeg b) ∧ ((NonNeg (sub IntKind.i64 8 b)) ∧ (R (AV.one (AC.int IntKind.u8 (bor IntKind.u8 (shl IntKind.u8 a b) (shr IntKind.u8 a (sub IntKind.i64 8 b))))) [])))) := by kernel_rfl
def Inv.l0 (R : AV → Mem → Prop)  (fuel : Nat) (x0 x1 x2 : Int) : Prop := run Try.prog gam1 [] (resh Try.prog [] Try.f42.results.toList R) fuel [kc Try.f42 [1,1,0,1,0,0],ki Try.f42 [1,1,0,1,0,0],.inBlock 0,kc Try.f42 [1,1,1]] (Uu::Uu::Uu::AV.one (AC.int IntKind.u8 x0)::AV.one (AC.int IntKind.u8 x1)::Uu::Ii x2::(us 8 [Zz])) []
theorem Inv.l0_succ (R : AV → Mem → Prop)  (fuel : Nat) (x0 x1 x2 : Int) : Inv.l0 R  (fuel + 1) x0 x1 x2 = (((((ilt x2 7) = true) → (((Byte x1) ∧ (Byte x1)) ∧ (((Byte x0) ∧ (Byte (fmul x1 x1))) ∧ (Inv.l0 R  fuel (fmul x0 (fmul x1 x1)) (fmul x1 x1) (add IntKind.i64 x2 1))))) ∧ (((ilt x2 7) = false) → (R (AV.one (AC.int IntKind.u8 x0)) [])))) := by kernel_rfl
theorem Inv_vc (R : AV → Mem → Prop) (fuel : Nat) (a : Int) : callsx Try.prog gam1 [] Try.f42 (fuel + 1) [.one (.int .u8 a)] [] R = ((Inv.l0 R  fuel 1 a 0)) := by kernel_rfl
theorem Sub_vc (R : AV → Mem → Prop) (fuel : Nat) (a : Int) : callsx Try.prog gam2 [] Try.f34 (fuel + 1) [.one (.int .u8 a)] [] R = (((Byte a) ∧ (((Byte (finv a)) ∧ (InB 1 9)) ∧ (((Byte (finv a)) ∧ (InB 2 9)) ∧ (((Byte (finv a)) ∧ (InB 3 9)) ∧ (((Byte (finv a)) ∧ (InB 4 9)) ∧ (R (AV.one (AC.int IntKind.u8 (bxor IntKind.u8 (bxor IntKind.u8 (bxor IntKind.u8 (bxor IntKind.u8 (bxor IntKind.u8 (finv a) (fturn (finv a) 1)) (fturn (finv a) 2)) (fturn (finv a) 3)) (fturn (finv a) 4)) 99))) []))))))) := by kernel_rfl
def mixd.l1 (R : AV → Mem → Prop) (x0 : Int) (c f : List Int) (fuel : Nat) (x2 : Int) (x3 : List Int) : Prop := run Try.prog gam4 [] (resh Try.prog [] Try.f52.results.toList R) fuel [kc Try.f52 [1,1,0,1,0,0,1,1,0,0,1,1,0,0],ki Try.f52 [1,1,0,1,0,0,1,1,0,0,1,1,0,0],.inBlock 2,.inBlock 1,kc Try.f52 [1,1,0,1,0,0,1,1,1],ki Try.f52 [1,1,0,1,0,0],.inBlock 0,kc Try.f52 [1,1,1]] (Uu::Uu::AV.one (AC.ptr 2 0 0)::AV.one (AC.ptr 3 0 0)::AV.one (AC.ptr 4 0 0)::AV.one (AC.ptr 5 0 0)::Ii x0::Uu::Ii x0::Ll true::Ii x0::Ii x2::(us 20 [Zz])) [(2,Blk.own 71 [Seg.ints IntKind.u8 4 c]),(3,Blk.own 71 [Seg.ints IntKind.u8 4 f]),(4,Blk.own 71 [Seg.ints IntKind.u8 4 (lzeros 4)]),(5,Blk.own 71 [Seg.ints IntKind.u8 4 x3])]
def mixd.l0 (R : AV → Mem → Prop) (c f : List Int) (fuel : Nat) (x0 : Int) (x1 : List Int) : Prop := run Try.prog gam4 [] (resh Try.prog [] Try.f52.results.toList R) fuel [kc Try.f52 [1,1,0,1,0,0],ki Try.f52 [1,1,0,1,0,0],.inBlock 0,kc Try.f52 [1,1,1]] (Uu::Uu::AV.one (AC.ptr 2 0 0)::AV.one (AC.ptr 3 0 0)::AV.one (AC.ptr 4 0 0)::AV.one (AC.ptr 5 0 0)::Uu::Uu::Ii x0::(us 23 [Zz])) [(2,Blk.own 71 [Seg.ints IntKind.u8 4 c]),(3,Blk.own 71 [Seg.ints IntKind.u8 4 f]),(4,Blk.own 71 [Seg.ints IntKind.u8 4 (lzeros 4)]),(5,Blk.own 71 [Seg.ints IntKind.u8 4 x1])]
theorem mixd.l1_succ (R : AV → Mem → Prop) (x0 : Int) (c f : List Int) (fuel : Nat) (x2 : Int) (x3 : List Int) : mixd.l1 R x0 c f (fuel + 1) x2 x3 = (((((ilt x2 4) = true) → ((InB x0 4) ∧ ((Low (nadd 0 (nat x0)) 4) ∧ ((NeZ 4) ∧ ((InB (rem (add IntKind.i64 (sub IntKind.i64 x2 x0) 4) 4) 4) ∧ ((Low (nadd 0 (nat (rem (add IntKind.i64 (sub IntKind.i64 x2 x0) 4) 4))) 4) ∧ ((InB x2 4) ∧ ((Low (nadd 0 (nat x2)) 4) ∧ (((Byte (lget f (nadd 0 (nat (rem (add IntKind.i64 (sub IntKind.i64 x2 x0) 4) 4))))) ∧ (Byte (lget c (nadd 0 (nat x2))))) ∧ ((InB x0 4) ∧ ((Low (nadd 0 (nat x0)) 4) ∧ (mixd.l1 R x0 c f fuel (add IntKind.i64 x2 1) (lset x3 (nadd 0 (nat x0)) (bxor IntKind.u8 (lget x3 (nadd 0 (nat x0))) (fmul (lget f (nadd 0 (nat (rem (add IntKind.i64 (sub IntKind.i64 x2 x0) 4) 4)))) (lget c (nadd 0 (nat x2)))))))))))))))))) ∧ (((ilt x2 4) = false) → (mixd.l0 R c f fuel (add IntKind.i64 x0 1) x3)))) := by kernel_rfl
theorem mixd.l0_succ (R : AV → Mem → Prop) (c f : List Int) (fuel : Nat) (x0 : Int) (x1 : List Int) : mixd.l0 R c f (fuel + 1) x0 x1 = (((((ilt x0 4) = true) → (mixd.l1 R x0 c f fuel 0 x1)) ∧ (((ilt x0 4) = false) → (R (AV.agg [Seg.ints IntKind.u8 4 x1]) [(2,Blk.own 71 [Seg.ints IntKind.u8 4 c]),(3,Blk.own 71 [Seg.ints IntKind.u8 4 f]),(4,Blk.own 71 [Seg.ints IntKind.u8 4 x1]),(5,Blk.own 71 [Seg.ints IntKind.u8 4 x1])])))) := by kernel_rfl
theorem mixd_vc (R : AV → Mem → Prop) (fuel : Nat) (c : List Int) (f : List Int) : callsx Try.prog gam4 [] Try.f52 (fuel + 1) [.agg [.ints .u8 4 c], .agg [.ints .u8 4 f]] [] R = ((mixd.l0 R c f fuel 0 (lzeros 4))) := by kernel_rfl
theorem Column_vc (R : AV → Mem → Prop) (fuel : Nat) (c : List Int) : callsx Try.prog gam5 [] Try.f48 (fuel + 1) [.agg [.ints .u8 4 c]] [] R = (((Low 0 4) ∧ ((Low 1 4) ∧ ((Low 2 4) ∧ ((Low 3 4) ∧ (((FCol c) ∧ (FCol (lset (lset (lset (lset (lzeros 4) 0 2) 1 3) 2 1) 3 1))) ∧ (R (AV.agg [(Seg.ints IntKind.u8 4 (fmix c (lset (lset (lset (lset (lzeros 4) 0 2) 1 3) 2 1) 3 1)))]) [(1, Blk.own 71 [(Seg.ints IntKind.u8 4 c)]), (2, Blk.own 71 [(Seg.ints IntKind.u8 4 (fmix c (lset (lset (lset (lset (lzeros 4) 0 2) 1 3) 2 1) 3 1)))])]))))))) := by kernel_rfl
theorem and128 : ∀ a, a < 256 → (a &&& 128 = 0 ↔ a < 128) := by decide +kernel
theorem xt_eq {a : Nat} (ha : a < 256) : xt a = if a < 128 then a * 2 ^ 1 % 256 else (a * 2 ^ 1 % 256) ^^^ 27 := by
 unfold xt
 split
 ·omega
 ·rw [show 2 * a - 256 = a * 2 ^ 1 % 256 by omega]
theorem mul_l0 (R : AV → Mem → Prop) : ∀ (d a b s : Nat), d ≤ 8 → a < 256 → b < 256 → s < 256 → R (.one (.int .u8 (gl d a b s : Nat))) [] → Mul.l0 R (d + 1) (a : Int) (b : Int) (s : Int) ((8 - d : Nat) : Int)
 | 0, a, b, s, _, ha, hb, hs, h => by
  rw [Mul.l0_succ]
  refine ⟨fun q => ?_, fun _ => h⟩
  rw [ilt_true] at q; omega
 | d + 1, a, b, s, hd, ha, hb, hs, h => by
  rw [Mul.l0_succ]
  have e1 : band .u8 (b : Int) 1 = ((b % 2 : Nat) : Int) := by
   rw [show (1 : Int) = ((1 : Nat) : Int) from rfl, band_u8 hb (by omega), Nat.and_one_is_mod]
  have e2 : band .u8 (a : Int) 128 = ((a &&& 128 : Nat) : Int) := by
   rw [show (128 : Int) = ((128 : Nat) : Int) from rfl, band_u8 ha (by omega)]
  have e3 : shl .u8 (a : Int) 1 = ((a * 2 ^ 1 % 256 : Nat) : Int) := shl_u8 (n := 1) (by omega)
  have e4 : shr .u8 (b : Int) 1 = ((b / 2 : Nat) : Int) := shr_u8 (n := 1) (by omega)
  have e5 : bxor .u8 (s : Int) (a : Int) = ((s ^^^ a : Nat) : Int) := bxor_u8 hs ha
  have hm : a * 2 ^ 1 % 256 < 256 := Nat.mod_lt _ (by omega)
  have e6 : bxor .u8 (((a * 2 ^ 1 % 256 : Nat) : Int)) 27 = (((a * 2 ^ 1 % 256) ^^^ 27 : Nat) : Int) := bxor_u8 (b := 27) hm (by omega)
  have e7 : add .i64 ((8 - (d + 1) : Nat) : Int) 1 = ((8 - d : Nat) : Int) := by rw [add_i64 (by omega) (by omega)]; omega
  have h128 := and128 a ha
  rw [e1, e2, e3, e4, e5, e6, e7]
  have go := fun a' s' ha' hs' hg => mul_l0 R d a' (b / 2) s' (by omega) ha' (by omega) hs' hg
  have hx := xt_eq ha
  have hxl := xt_lt ha
  simp only [gl] at h
  refine ⟨fun _ => ⟨fun q => ⟨⟨by decide⟩, ⟨by decide⟩, fun q' => ?_, fun q' => ?_⟩, fun q => ⟨⟨by decide⟩, ⟨by decide⟩, fun q' => ?_, fun q' => ?_⟩⟩, fun q => ?_⟩
  ·rw [ieq_true] at q; rw [ine_true] at q'
   have c1 : b % 2 = 1 := by omega
   have c2 : ¬ a < 128 := by omega
   rw [if_neg c2] at hx
   rw [← hx] at *
   exact go _ _ hxl (xor_lt hs ha) (by simpa [c1] using h)
  ·rw [ieq_true] at q; rw [ine_false] at q'
   have c1 : b % 2 = 1 := by omega
   have c2 : a < 128 := by omega
   rw [if_pos c2] at hx
   rw [← hx] at *
   exact go _ _ hxl (xor_lt hs ha) (by simpa [c1] using h)
  ·rw [ieq_false] at q; rw [ine_true] at q'
   have c1 : ¬ b % 2 = 1 := by omega
   have c2 : ¬ a < 128 := by omega
   rw [if_neg c2] at hx
   rw [← hx] at *
   exact go _ _ hxl hs (by simpa [c1] using h)
  ·rw [ieq_false] at q; rw [ine_false] at q'
   have c1 : ¬ b % 2 = 1 := by omega
   have c2 : a < 128 := by omega
   rw [if_pos c2] at hx
   rw [← hx] at *
   exact go _ _ hxl hs (by simpa [c1] using h)
  ·rw [ilt_false] at q; omega
theorem good_mul : Sx.Good Try.prog 41 (bin8 fmul) := by
 refine Sx.Good.pure (D := []) mixed (good0 _) Try.func41 (by kernel_rfl) rfl fun d args σ K h => ?_
 simp only [bin8] at h
 split at h <;> try exact h.elim
 rename_i a b
 obtain ⟨⟨ha, hb⟩, hK⟩ := h
 obtain ⟨x, hx, rfl⟩ := ha.nat
 obtain ⟨y, hy, rfl⟩ := hb.nat
 refine ⟨by simp [plain_int], _, plain_int _ _, hK, 9 + 1, ?_⟩
 rw [Mul_vc]
 exact mul_l0 (fun av' _ => av' = .one (.int .u8 (fmul x y))) 8 x y 0 (by omega) hx hy (by omega) (by simp [fmul, gm])
theorem good_turned : Sx.Good Try.prog 43 turnS := by
 refine Sx.Good.pure (D := []) mixed (good0 _) Try.func43 (by kernel_rfl) rfl fun d args σ K h => ?_
 simp only [turnS] at h
 split at h <;> try exact h.elim
 rename_i a n
 obtain ⟨⟨ha, hn⟩, hK⟩ := h
 obtain ⟨x, hx, rfl⟩ := ha.nat
 obtain ⟨m, rfl⟩ := Int.eq_ofNat_of_zero_le hn.lo
 have hm : m ≤ 8 := by have := hn.hi; omega
 refine ⟨by simp [plain_int], _, plain_int _ _, hK, 0 + 1, ?_⟩
 rw [turned_vc]
 have e1 : sub .i64 8 (m : Int) = ((8 - m : Nat) : Int) := by rw [sub_i64 (by omega) (by omega)]; omega
 rw [e1, shl_u8 hm, shr_u8 (show 8 - m ≤ 8 by omega), bor_u8 (Nat.mod_lt _ (by decide)) (Nat.lt_of_le_of_lt (Nat.div_le_self _ _) hx)]
 exact ⟨⟨by omega⟩, ⟨by omega⟩, by simp [fturn, turn]⟩
theorem gam1_good : GoodG Try.prog gam1 := (((good0 _).ext good_mul ⟨_, Try.func41, by decide, by kernel_rfl⟩).ext good_turned ⟨_, Try.func43, by decide, by kernel_rfl⟩)
theorem inv_l0 (R : AV → Mem → Prop) : ∀ (d p q : Nat), d ≤ 7 → p < 256 → q < 256 → R (.one (.int .u8 (il d p q : Nat))) [] → Inv.l0 R (d + 1) (p : Int) (q : Int) ((7 - d : Nat) : Int)
 | 0, p, q, _, hp, hq, h => by
  rw [Inv.l0_succ]
  refine ⟨fun c => ?_, fun _ => h⟩
  rw [ilt_true] at c; omega
 | d + 1, p, q, hd, hp, hq, h => by
  rw [Inv.l0_succ]
  have e7 : add .i64 ((7 - (d + 1) : Nat) : Int) 1 = ((7 - d : Nat) : Int) := by rw [add_i64 (by omega) (by omega)]; omega
  have e1 : fmul (q : Int) (q : Int) = (gm q q : Nat) := by simp [fmul]
  have e2 : fmul (p : Int) ((gm q q : Nat) : Int) = (gm p (gm q q) : Nat) := by simp [fmul]
  rw [e1, e2, e7]
  refine ⟨fun _ => ⟨⟨.of hq, .of hq⟩, ⟨.of hp, .of (gm_lt hq)⟩, inv_l0 R d _ _ (by omega) (gm_lt hp) (gm_lt hq) h⟩, fun c => ?_⟩
  rw [ilt_false] at c; omega
theorem good_inv : Sx.Good Try.prog 42 (un8 finv) := by
 refine Sx.Good.pure (D := []) mixed gam1_good Try.func42 (by kernel_rfl) rfl fun d args σ K h => ?_
 simp only [un8] at h
 split at h <;> try exact h.elim
 rename_i a
 obtain ⟨ha, hK⟩ := h
 obtain ⟨x, hx, rfl⟩ := ha.nat
 refine ⟨by simp [plain_int], _, plain_int _ _, hK, 8 + 1, ?_⟩
 rw [Inv_vc]
 exact inv_l0 (fun av' _ => av' = .one (.int .u8 (finv x))) 7 1 x (by omega) (by omega) hx (by simp [finv, gi])
theorem gam2_good : GoodG Try.prog gam2 := gam1_good.ext good_inv ⟨_, Try.func42, by decide, by kernel_rfl⟩
theorem fturn_nat (x n : Nat) : fturn (x : Int) (n : Int) = (turn x n : Nat) := by simp [fturn]
theorem good_sub : Sx.Good Try.prog 34 (un8 fsub) := by
 refine Sx.Good.pure (D := []) mixed gam2_good Try.func34 (by kernel_rfl) rfl fun d args σ K h => ?_
 simp only [un8] at h
 split at h <;> try exact h.elim
 rename_i a
 obtain ⟨ha, hK⟩ := h
 obtain ⟨x, hx, rfl⟩ := ha.nat
 refine ⟨by simp [plain_int], _, plain_int _ _, hK, 0 + 1, ?_⟩
 rw [Sub_vc]
 have hi := gi_lt x
 have e0 : finv (x : Int) = (gi x : Nat) := by simp [finv]
 have t : ∀ n : Nat, turn (gi x) n < 256 := fun n => turn_lt hi
 have e1 : fturn ((gi x : Nat) : Int) 1 = (turn (gi x) 1 : Nat) := fturn_nat _ 1
 have e2 : fturn ((gi x : Nat) : Int) 2 = (turn (gi x) 2 : Nat) := fturn_nat _ 2
 have e3 : fturn ((gi x : Nat) : Int) 3 = (turn (gi x) 3 : Nat) := fturn_nat _ 3
 have e4 : fturn ((gi x : Nat) : Int) 4 = (turn (gi x) 4 : Nat) := fturn_nat _ 4
 have e5 : ∀ y : Nat, y < 256 → bxor .u8 (y : Int) 99 = ((y ^^^ 99 : Nat) : Int) := fun y hy => bxor_u8 (b := 99) hy (by omega)
 rw [e0, e1, e2, e3, e4, bxor_u8 hi (t 1), bxor_u8 (xor_lt hi (t 1)) (t 2), bxor_u8 (xor_lt (xor_lt hi (t 1)) (t 2)) (t 3), bxor_u8 (xor_lt (xor_lt (xor_lt hi (t 1)) (t 2)) (t 3)) (t 4), e5 _ (xor_lt (xor_lt (xor_lt (xor_lt hi (t 1)) (t 2)) (t 3)) (t 4))]
 exact ⟨ha, ⟨.of hi, ⟨by decide, by decide⟩⟩, ⟨.of hi, ⟨by decide, by decide⟩⟩, ⟨.of hi, ⟨by decide, by decide⟩⟩, ⟨.of hi, ⟨by decide, by decide⟩⟩, by simp [fsub, gs]⟩
theorem gam3_good : GoodG Try.prog gam3 := (gam2_good.ext good_sub ⟨_, Try.func34, by decide, by kernel_rfl⟩)
theorem gam4_good : GoodG Try.prog gam4 := gam3_good
theorem lget_intL (l : List Nat) (i : Nat) : lget (intL l) i = ((l.getD i 0 : Nat) : Int) := by
 simp only [lget, intL, List.getD_eq_getElem?_getD, List.getElem?_map]
 cases l[i]? <;> simp
theorem lset_intL (l : List Nat) (i v : Nat) : lset (intL l) i (v : Int) = intL (l.set i v) := by
 simp only [lset, intL, List.map_set]
theorem natL_intL (l : List Nat) : natL (intL l) = l := by
 simp [natL, intL, Function.comp_def]
structure ColN (l : List Nat) : Prop where
 len : l.length = 4
 all : ∀ x ∈ l, x < 256
theorem ColN.at {l : List Nat} (h : ColN l) (i : Nat) : l.getD i 0 < 256 := by
 rw [List.getD_eq_getElem?_getD]
 cases hq : l[i]? with
 | none => simp
 | some x => exact h.all x (List.mem_of_getElem? hq)
theorem ColN.set {l : List Nat} (h : ColN l) (i v : Nat) (hv : v < 256) : ColN (l.set i v) :=
  ⟨by simp [h.len], fun x hx => by rcases List.mem_or_eq_of_mem_set hx with h' | h'
                                   · exact h.all x h'
                                   · omega⟩
theorem col_nat {c : List Int} (h : FCol c) : ∃ l, ColN l ∧ c = intL l := by
 refine ⟨natL c, ⟨by simp [natL, h.len], fun x hx => ?_⟩, ?_⟩
 ·simp only [natL, List.mem_map] at hx
  obtain ⟨y, hy, rfl⟩ := hx
  have hb := h.all y hy
  have := hb.lo; have := hb.hi; omega
 ·simp only [intL, natL, List.map_map]
  symm
  rw [List.map_congr_left (g := id) fun y hy => by have := (h.all y hy).lo; simp; omega]
  simp
theorem ColN.col {l : List Nat} (h : ColN l) : FCol (intL l) := ⟨by simp [intL, h.len], fun x hx => by
 simp only [intL, List.mem_map] at hx
 obtain ⟨y, hy, rfl⟩ := hx
 exact .of (h.all y hy)⟩
theorem rot {r i : Nat} (hr : r < 4) (hi : i < 4) : rem (add .i64 (sub .i64 (i : Int) (r : Int)) 4) 4 = (((i + 4 - r) % 4 : Nat) : Int) := by
 rw [sub_i64 (by omega) (by omega), add_i64 (by omega) (by omega)]
 unfold rem
 rw [Int.tmod_eq_emod_of_nonneg (by omega)]
 omega
theorem ml_lt {c f : List Nat} (hf : ColN f) {r : Nat} : ∀ (d i s : Nat), s < 256 → ml c f r d i s < 256
 | 0, _, _, h => h
 | d + 1, i, s, h => ml_lt hf d _ _ (xor_lt h (gm_lt (hf.at _)))
theorem mix_l1 (R : AV → Mem → Prop) (c f : List Nat) (hc : ColN c) (hf : ColN f) (fuel r : Nat) (hr : r < 4) : ∀ (d : Nat) (x : List Nat), d ≤ 4 → ColN x →
  (mixd.l0 R (intL c) (intL f) fuel ((r + 1 : Nat) : Int) (intL (x.set r (ml c f r d (4 - d) (x.getD r 0))))) → mixd.l1 R (r : Int) (intL c) (intL f) (fuel + d + 1) ((4 - d : Nat) : Int) (intL x) := by
 intro d
 induction d with
 | zero =>
  intro x _ hx h
  rw [Nat.add_zero, mixd.l1_succ]
  refine ⟨fun q => ?_, fun _ => ?_⟩
  ·rw [ilt_true] at q; omega
  ·rw [add_i64 (by omega) (by omega)]
   have e : x.set r (ml c f r 0 (4 - 0) (x.getD r 0)) = x := by
    simp only [ml]
    apply List.ext_getElem (by simp)
    intro j h1 h2
    rw [List.getElem_set]
    split
    ·rename_i q; subst q; simp [List.getD_eq_getElem?_getD, List.getElem?_eq_getElem h2]
    ·rfl
   rw [e] at h
   exact h
 | succ d ih =>
  intro x hd hx h
  rw [show fuel + (d + 1) + 1 = (fuel + d + 1) + 1 by omega, mixd.l1_succ]
  have hi : 4 - (d + 1) < 4 := by omega
  rw [rot hr hi]
  simp only [nadd, nat, Int.toNat_natCast, Nat.zero_add, lget_intL]
  have e1 : fmul ((f.getD ((4 - (d + 1) + 4 - r) % 4) 0 : Nat) : Int) ((c.getD (4 - (d + 1)) 0 : Nat) : Int) = (gm (f.getD ((4 - (d + 1) + 4 - r) % 4) 0) (c.getD (4 - (d + 1)) 0) : Nat) := by simp [fmul]
  rw [e1, bxor_u8 (hx.at r) (gm_lt (hf.at _)), lset_intL, add_i64 (by omega) (by omega)]
  refine ⟨fun _ => ⟨⟨by omega, by omega⟩, ⟨by omega⟩, ⟨by decide⟩, ⟨by omega, by omega⟩, ⟨by omega⟩, ⟨by omega, by omega⟩, ⟨by omega⟩, ⟨.of (hf.at _), .of (hc.at _)⟩, ⟨by omega, by omega⟩, ⟨by omega⟩, ?_⟩, fun q => ?_⟩
  ·rw [show ((4 - (d + 1) : Nat) : Int) + 1 = ((4 - d : Nat) : Int) by omega]
   refine ih _ (by omega) (hx.set _ _ (xor_lt (hx.at r) (gm_lt (hf.at _)))) ?_
   rw [List.set_set]
   have e2 : (x.set r (x.getD r 0 ^^^ gm (f.getD ((4 - (d + 1) + 4 - r) % 4) 0) (c.getD (4 - (d + 1)) 0))).getD r 0 = x.getD r 0 ^^^ gm (f.getD ((4 - (d + 1) + 4 - r) % 4) 0) (c.getD (4 - (d + 1)) 0) := by
    simp [List.getD_eq_getElem?_getD, hx.len, hr]
   rw [e2]
   simp only [ml] at h
   rw [show 4 - (d + 1) + 1 = 4 - d by omega] at h
   exact h
  ·rw [ilt_false] at q; omega
theorem mix_l0 (R : AV → Mem → Prop) (c f x : List Nat) (hc : ColN c) (hf : ColN f) {r : Nat} (hr : r < 4) (hx : ColN x) (fuel : Nat) (h : mixd.l0 R (intL c) (intL f) fuel ((r + 1 : Nat) : Int) (intL (x.set r (ml c f r 4 0 (x.getD r 0))))) :
  mixd.l0 R (intL c) (intL f) (fuel + 6) (r : Int) (intL x) := by
 rw [mixd.l0_succ]
 refine ⟨fun _ => mix_l1 R c f hc hf fuel r hr 4 x (by omega) hx h, fun q => ?_⟩
 rw [ilt_false] at q; omega
theorem mix_all (v : AV) (c f : List Nat) (hc : ColN c) (hf : ColN f) (hv : v = .agg [.ints .u8 4 (intL (mixN c f))]) : mixd.l0 (fun av' _ => av' = v) (intL c) (intL f) 25 0 (intL [0, 0, 0, 0]) := by
 have z : ColN [0, 0, 0, 0] := ⟨rfl, by simp⟩
 have l := fun r s (hs : s < 256) => ml_lt (c := c) hf (r := r) 4 0 s hs
 have s1 := z.set 0 _ (l 0 _ (z.at 0))
 have s2 := s1.set 1 _ (l 1 _ (s1.at 1))
 have s3 := s2.set 2 _ (l 2 _ (s2.at 2))
 refine mix_l0 _ c f _ hc hf (r := 0) (by omega) z 19 (mix_l0 _ c f _ hc hf (r := 1) (by omega) s1 13 (mix_l0 _ c f _ hc hf (r := 2) (by omega) s2 7 (mix_l0 _ c f _ hc hf (r := 3) (by omega) s3 1 ?_)))
 rw [mixd.l0_succ]
 refine ⟨fun q => ?_, fun _ => ?_⟩
 ·rw [ilt_true] at q; omega
 ·rw [hv]; rfl
theorem good_mixed : Sx.Good Try.prog 52 mixS := by
 refine Sx.Good.pure (D := []) mixed gam4_good Try.func52 (by kernel_rfl) rfl fun d args σ K h => ?_
 simp only [mixS] at h
 split at h <;> try exact h.elim
 rename_i c f
 obtain ⟨⟨hc, hf⟩, hK⟩ := h
 obtain ⟨c, hc', rfl⟩ := col_nat hc
 obtain ⟨f, hf', rfl⟩ := col_nat hf
 refine ⟨by simp [plain_ints], _, plain_ints _ _ _, hK, 25 + 1, ?_⟩
 rw [mixd_vc]
 exact mix_all _ c f hc' hf' (by simp [fmix, natL_intL])
theorem gam5_good : GoodG Try.prog gam5 := gam4_good.ext good_mixed ⟨_, Try.func52, by decide, by kernel_rfl⟩
theorem col_of {a b c d : Nat} (h : a < 256 ∧ b < 256 ∧ c < 256 ∧ d < 256) : FCol [(a : Int), b, c, d] :=
 ColN.col (l := [a, b, c, d]) ⟨rfl, fun x hx => by simp at hx; rcases hx with rfl | rfl | rfl | rfl <;> omega⟩
theorem good_column : Sx.Good Try.prog 48 (colS [2, 3, 1, 1]) := by
 refine Sx.Good.pure (D := []) mixed gam5_good Try.func48 (by kernel_rfl) rfl fun d args σ K h => ?_
 simp only [colS] at h
 split at h <;> try exact h.elim
 rename_i c
 obtain ⟨hc, hK⟩ := h
 refine ⟨by simp [plain_ints], _, plain_ints _ _ _, hK, 0 + 1, ?_⟩
 rw [Column_vc]
 exact ⟨⟨by decide⟩, ⟨by decide⟩, ⟨by decide⟩, ⟨by decide⟩, ⟨hc, col_of (a := 2) (b := 3) (c := 1) (d := 1) (by decide)⟩, rfl⟩
theorem gam6_good : GoodG Try.prog gam6 := (gam4_good.ext good_column ⟨_, Try.func48, by decide, by kernel_rfl⟩)
end Go.Proofs.Ytacnldmmacjpoaa.G
namespace Go.Proofs.Ytacnldmmacjpoaa.G
open Go Go.Sx Go.Fld Go.Blk
theorem good_with : Sx.Good Try.prog 44 withS := by
 refine Sx.Good.pure (D := []) mixed (good0 _) Try.func44 (by kernel_rfl) rfl fun d args σ K h => ?_
 simp only [withS] at h
 split at h <;> try exact h.elim
 rename_i b k
 obtain ⟨⟨hb, hk⟩, hK⟩ := h
 refine ⟨by simp [plain_ints], _, plain_ints _ _ _, hK, 16 + 1 + 1, ?_⟩
 rw [bwith_vc]
 have key := loop_up0 (fun f i s => bwith.l0 (fun av' _ => av' = .agg [.ints .u8 16 (qx b k)]) k f i s) 16 (fun i => upto 16 i (fun j => bxor .u8 (lget b j) (lget k j)) (lget b))
  (fun f i hi h => by
   rw [bwith.l0_succ]
   refine ⟨fun _ => ?_, fun q => ?_⟩
   ·simp only [InB_iff, Low_iff, nat_cast, nadd_def, Nat.zero_add]
    refine ⟨by omega, hi, by omega, hi, by omega, hi, ?_⟩
    rw [add1_i64 (by omega), upto_hi (Nat.le_refl _) hi, upto_lset rfl]
    exact h
   ·rw [ilt_false] at q; omega)
  (fun f => by
   rw [bwith.l0_succ]
   refine ⟨fun q => ?_, fun _ => ?_⟩
   ·rw [ilt_true] at q; omega
   ·rw [upto_done]; rfl) 0
 rw [upto_zero, ← hb.eq] at key
 exact key
theorem eachS_run {R : AV → Mem → Prop} {b : List Int} (hb : BL 16 b) (m : Nat) (h : ∀ σ, R (.agg [.ints .u8 16 (qe fsub b)]) σ) : eachS.l0 R (16 + 1 + m) 0 b := by
 have key := loop_up0 (fun f i s => eachS.l0 R f i s) 16 (fun i => upto 16 i (fun j => fsub (lget b j)) (lget b))
  (fun f i hi h => by
   rw [eachS.l0_succ]
   refine ⟨fun _ => ?_, fun q => ?_⟩
   ·simp only [InB_iff, Low_iff, nat_cast, nadd_def, Nat.zero_add]
    rw [upto_hi (Nat.le_refl _) hi]
    refine ⟨by omega, hi, hb.get _, by omega, hi, ?_⟩
    rw [add1_i64 (by omega), upto_lset rfl]
    exact h
   ·rw [ilt_false] at q; omega)
  (fun f => by
   rw [eachS.l0_succ]
   refine ⟨fun q => ?_, fun _ => ?_⟩
   ·rw [ilt_true] at q; omega
   ·rw [upto_done]; exact h _) m
 rw [upto_zero, ← hb.eq] at key
 exact key
theorem eachT_run {R : AV → Mem → Prop} {b t : List Int} (hb : BL 16 b) (ht : Tbl t) (m : Nat) (h : ∀ σ, R (.agg [.ints .u8 16 (qe fsub b)]) σ) : eachT.l0 R t (16 + 1 + m) 0 b := by
 have key := loop_up0 (fun f i s => eachT.l0 R t f i s) 16 (fun i => upto 16 i (fun j => fsub (lget b j)) (lget b))
  (fun f i hi h => by
   rw [eachT.l0_succ]
   refine ⟨fun _ => ?_, fun q => ?_⟩
   ·simp only [InB_iff, Low_iff, nat_cast, nadd_def, Nat.zero_add]
    rw [upto_hi (Nat.le_refl _) hi]
    refine ⟨by omega, hi, ⟨hb.get _, ht⟩, by omega, hi, ?_⟩
    rw [add1_i64 (by omega), upto_lset rfl]
    exact h
   ·rw [ilt_false] at q; omega)
  (fun f => by
   rw [eachT.l0_succ]
   refine ⟨fun q => ?_, fun _ => ?_⟩
   ·rw [ilt_true] at q; omega
   ·rw [upto_done]; exact h _) m
 rw [upto_zero, ← hb.eq] at key
 exact key
theorem good_told : Sx.Good Try.prog 35 tblS := by
 refine Sx.Good.reads (D := []) mixed (good0 _) Try.func35 (by kernel_rfl) rfl fun d args σ K h => ?_
 simp only [tblS] at h
 split at h <;> try exact h.elim
 rename_i a n
 split at h <;> try exact h.elim
 rename_i b hn
 split at h <;> try exact h.elim
 rename_i t hs
 obtain ⟨⟨ha, ht⟩, hK⟩ := h
 obtain ⟨i, hi, rfl⟩ := ha.nat
 refine ⟨[.one (.int .u8 (i : Int)), .one (.ptr 200001 0 0)], [(200001, .view [.ints .u8 256 t])], .plain (plain_int _ _) (hs ▸ .ptr hn (by rw [hs]; intro m; rfl) (.nil _)), by simp, 0 + 1, ?_⟩
 rw [told_vc]
 simp only [InB_iff, Low_iff, nat_cast, nadd_def, Nat.zero_add]
 exact ⟨⟨by omega, by omega⟩, hi, res_int (ht.at_ i hi) hK⟩
theorem gamB1'_good : GoodG Try.prog (ext gam6 35 tblS) := gam6_good.ext good_told ⟨_, Try.func35, by decide, by kernel_rfl⟩
theorem colsC_run {R : AV → Mem → Prop} {b : List Int} (hb : BL 16 b) (m : Nat) (h : ∀ σ, R (.agg [.ints .u8 16 (qc [2, 3, 1, 1] b)]) σ) : colsC.l0 R (4 + 1 + m) 0 b := by
 have key := loop_by 4 (fun f i s => colsC.l0 R f i s) 4 (fun i => upto 16 (4 * i) (fun j => lget (fmix (lsub b (j / 4 * 4) 4) [2, 3, 1, 1]) (j % 4)) (lget b))
  (fun f i hi h => by
   rw [colsC.l0_succ]
   refine ⟨fun _ => ?_, fun q => ?_⟩
   ·have e0 : add .i64 ((4 * i : Nat) : Int) 4 = ((4 * (i + 1) : Nat) : Int) := by rw [add_i64 (by omega) (by omega)]; omega
    have el : lsub (upto 16 (4 * i) (fun j => lget (fmix (lsub b (j / 4 * 4) 4) [2, 3, 1, 1]) (j % 4)) (lget b)) (4 * i) 4 = lsub b (4 * i) 4 := by
     rw [upto, tab_lsub _ (by omega), hb.eq, tab_lsub _ (by omega)]
     refine tab_ext fun j hj => ?_
     rw [if_neg (by omega), ← hb.eq]
    have hc : FCol (lsub b (4 * i) 4) := by
     refine ⟨lsub_len _ _ _ (by rw [hb.len]; omega), fun x hx => hb.all x ?_⟩
     exact List.mem_of_mem_drop (List.mem_of_mem_take hx)
    have hl : (fmix (lsub b (4 * i) 4) [2, 3, 1, 1]).length = 4 := rfl
    simp only [InB_iff, Low_iff, Fits_iff, NonNeg_iff, nat_cast, nadd_def, nsub_def, Nat.zero_add, e0, el]
    refine ⟨⟨⟨by omega, by omega⟩, by omega, by omega⟩, by omega, by omega, hc, ⟨by omega, by omega⟩, by omega, by omega, ?_⟩
    have e1 : lsub (fmix (lsub b (4 * i) 4) [2, 3, 1, 1]) 0 4 = fmix (lsub b (4 * i) 4) [2, 3, 1, 1] := by
     have := lsub_all (fmix (lsub b (4 * i) 4) [2, 3, 1, 1]); rwa [hl] at this
    have e2 : nmin (llen (fmix (lsub b (4 * i) 4) [2, 3, 1, 1])) (16 - 4 * i) = 4 := by rw [llen_def, hl, nmin_def]; omega
    rw [e1, e2, e1, eq_tab hl, upto, tab_lput _ _ (by omega)]
    have e3 : (tab 16 fun j => if 4 * i ≤ j ∧ j < 4 * i + 4 then lget (fmix (lsub b (4 * i) 4) [2, 3, 1, 1]) (j - 4 * i) else if j < 4 * i then lget (fmix (lsub b (j / 4 * 4) 4) [2, 3, 1, 1]) (j % 4) else lget b j) = upto 16 (4 * (i + 1)) (fun j => lget (fmix (lsub b (j / 4 * 4) 4) [2, 3, 1, 1]) (j % 4)) (lget b) := by
     refine tab_ext fun j hj => ?_
     by_cases q1 : j < 4 * i
     ·rw [if_neg (by omega), if_pos q1, if_pos (by omega)]
     ·by_cases q2 : j < 4 * i + 4
      ·rw [if_pos ⟨by omega, q2⟩, if_pos (by omega)]; show _ = lget (fmix (lsub b (j / 4 * 4) 4) [2, 3, 1, 1]) (j % 4); rw [show j / 4 * 4 = 4 * i by omega, show j % 4 = j - 4 * i by omega]
      ·rw [if_neg (by omega), if_neg q1, if_neg (by omega)]
    rw [e3]
    exact h
   ·rw [ilt_false] at q; omega)
  (fun f => by
   rw [colsC.l0_succ]
   refine ⟨fun q => ?_, fun _ => ?_⟩
   ·rw [ilt_true] at q; omega
   ·show R (.agg [.ints .u8 16 (upto 16 16 _ _)]) _
    rw [upto_done]; exact h _) m
 rw [upto_zero, ← hb.eq] at key
 exact key
theorem turned_run {R : AV → Mem → Prop} {b : List Int} {n : Nat} (hb : BL 16 b) (hn : n < 4) (h : ∀ σ, R (.agg [.ints .u8 16 (qt n b)]) σ) : bturned.l0 R (n : Int) b (1 + 6 * 4) 0 (lzeros 16) := by
 have hs : ∀ g r, r < 4 → bturned.l0 R (n : Int) b g ((r + 1 : Nat) : Int) (tab 16 fun j => if j % 4 < r + 1 then lget b (4 * ((j / 4 + j % 4 * n) % 4) + j % 4) else 0) →
   bturned.l0 R (n : Int) b (g + 6) (r : Int) (tab 16 fun j => if j % 4 < r then lget b (4 * ((j / 4 + j % 4 * n) % 4) + j % 4) else 0) := by
  intro g r hr hg
  rw [bturned.l0_succ]
  refine ⟨fun _ => ?_, fun q => ?_⟩
  ·have key := loop_n (fun f i s => bturned.l1 R (n : Int) (r : Int) b f i s) 4 (fun c => tab 16 fun j => if j % 4 < r ∨ (j % 4 = r ∧ j / 4 < c) then lget b (4 * ((j / 4 + j % 4 * n) % 4) + j % 4) else 0) 1 (g + 1)
    (fun f c hc hf => by
     rw [bturned.l1_succ]
     refine ⟨fun _ => ?_, fun q => ?_⟩
     ·have hrn : r * n ≤ 9 := Nat.mul_le_mul (show r ≤ 3 by omega) (show n ≤ 3 by omega)
      have e1 : mul .i64 (r : Int) (n : Int) = ((r * n : Nat) : Int) := mulN_i64 (by omega)
      have e2 : add .i64 (c : Int) ((r * n : Nat) : Int) = ((c + r * n : Nat) : Int) := addN_i64 (by omega)
      have e3 : rem ((c + r * n : Nat) : Int) 4 = (((c + r * n) % 4 : Nat) : Int) := remN (b := 4)
      have e4 : mul .i64 4 (((c + r * n) % 4 : Nat) : Int) = ((4 * ((c + r * n) % 4) : Nat) : Int) := mulN_i64 (a := 4) (by omega)
      have e5 : add .i64 ((4 * ((c + r * n) % 4) : Nat) : Int) (r : Int) = ((4 * ((c + r * n) % 4) + r : Nat) : Int) := addN_i64 (by omega)
      have e6 : mul .i64 4 (c : Int) = ((4 * c : Nat) : Int) := mulN_i64 (a := 4) (by omega)
      have e7 : add .i64 ((4 * c : Nat) : Int) (r : Int) = ((4 * c + r : Nat) : Int) := addN_i64 (by omega)
      rw [e1, e2, e3, e4, e5, e6, e7]
      simp only [InB_iff, Low_iff, NeZ_iff, nat_cast, nadd_def, Nat.zero_add]
      refine ⟨by decide, ⟨by omega, by omega⟩, by omega, ⟨by omega, by omega⟩, by omega, ?_⟩
      rw [add1_i64 (by omega), tab_lset]
      have e8 : (tab 16 fun j => if j = 4 * c + r then lget b (4 * ((c + r * n) % 4) + r) else if j % 4 < r ∨ (j % 4 = r ∧ j / 4 < c) then lget b (4 * ((j / 4 + j % 4 * n) % 4) + j % 4) else 0) =
        tab 16 fun j => if j % 4 < r ∨ (j % 4 = r ∧ j / 4 < c + 1) then lget b (4 * ((j / 4 + j % 4 * n) % 4) + j % 4) else 0 := by
       refine tab_ext fun j hj => ?_
       by_cases q : j = 4 * c + r
       ·rw [if_pos q, if_pos (by omega), show j / 4 = c by omega, show j % 4 = r by omega]
       ·rw [if_neg q]
        by_cases q2 : j % 4 < r ∨ (j % 4 = r ∧ j / 4 < c)
        ·rw [if_pos q2, if_pos (by omega)]
        ·rw [if_neg q2, if_neg (by omega)]
      rw [e8]
      exact hf
     ·rw [ilt_false] at q; omega)
    (by
     rw [bturned.l1_succ]
     refine ⟨fun q => ?_, fun _ => ?_⟩
     ·rw [ilt_true] at q; omega
     ·rw [add1_i64 (by omega)]
      have : (tab 16 fun j => if j % 4 < r ∨ (j % 4 = r ∧ j / 4 < 4) then lget b (4 * ((j / 4 + j % 4 * n) % 4) + j % 4) else 0) = tab 16 fun j => if j % 4 < r + 1 then lget b (4 * ((j / 4 + j % 4 * n) % 4) + j % 4) else 0 := by
       refine tab_ext fun j hj => ?_
       by_cases q : j % 4 < r + 1
       ·rw [if_pos q, if_pos (by omega)]
       ·rw [if_neg q, if_neg (by omega)]
      rw [this]; exact hg) 0 (Nat.zero_le _)
   have e : (tab 16 fun j => if j % 4 < r ∨ (j % 4 = r ∧ j / 4 < 0) then lget b (4 * ((j / 4 + j % 4 * n) % 4) + j % 4) else 0) = tab 16 fun j => if j % 4 < r then lget b (4 * ((j / 4 + j % 4 * n) % 4) + j % 4) else 0 := by
    refine tab_ext fun j hj => ?_
    simp
   rw [e] at key
   exact key
  ·rw [ilt_false] at q; omega
 have key := loop_n (fun f i s => bturned.l0 R (n : Int) b f i s) 4 (fun r => tab 16 fun j => if j % 4 < r then lget b (4 * ((j / 4 + j % 4 * n) % 4) + j % 4) else 0) 6 1 hs
  (by
   rw [bturned.l0_succ]
   refine ⟨fun q => ?_, fun _ => ?_⟩
   ·rw [ilt_true] at q; omega
   ·have : (tab 16 fun j => if j % 4 < 4 then lget b (4 * ((j / 4 + j % 4 * n) % 4) + j % 4) else 0) = qt n b := tab_ext fun j hj => by rw [if_pos (by omega)]
    rw [this]; exact h _) 0 (Nat.zero_le _)
 rw [lzeros_tab]
 have e : (tab 16 fun j => if j % 4 < 0 then lget b (4 * ((j / 4 + j % 4 * n) % 4) + j % 4) else 0) = tab 16 fun _ => (0 : Int) := tab_ext fun j hj => by simp
 rw [e] at key
 exact key
theorem next_run {R : AV → Mem → Prop} (h : ∀ b σ, R (.agg [.ints .u8 16 b]) σ → True) {b0 : List Int} (hR : ∀ σ, R (.agg [.ints .u8 16 (up b0)]) σ) : ∀ (i : Nat) (b : List Int), i ≤ 16 → b.length = 16 → upN i b = up b0 → bnext.l0 R (i + 1) ((i : Int) - 1) b := by
 intro i
 induction i with
 | zero =>
  intro b _ _ e
  rw [bnext.l0_succ]
  refine ⟨fun q => ?_, fun _ => ?_⟩
  ·rw [ige_true] at q; omega
  ·rw [show b = up b0 from e]; exact hR _
 | succ i ih =>
  intro b hi hb e
  rw [bnext.l0_succ, show ((i + 1 : Nat) : Int) - 1 = (i : Int) by omega]
  refine ⟨fun _ => ?_, fun q => ?_⟩
  ·have hl : lget (lset b i (add .u8 (lget b i) 1)) i = add .u8 (lget b i) 1 := by
    simp [lget, lset, List.getD, hb, show i < 16 by omega]
   simp only [InB_iff, Low_iff, nat_cast, nadd_def, Nat.zero_add, hl]
   refine ⟨by omega, by omega, by omega, by omega, by omega, by omega, fun q => ?_, fun q => ?_⟩
   ·rw [ine_true] at q
    rw [upN, if_neg q] at e
    rw [e]; exact hR _
   ·rw [ine_false] at q
    rw [upN, if_pos q] at e
    rw [sub_i64 (by omega) (by omega)]
    exact ih _ (by omega) (by simp [lset, hb]) e
  ·rw [ige_false] at q; omega
def kp (key : List Int) (p : Nat) : Int := kw key (p / 4) (p % 4)
theorem kp_word (key : List Int) (i j : Nat) (h : j < 4) : kp key (4 * i + j) = kw key i j := by
 unfold kp; rw [show (4 * i + j) / 4 = i by omega, show (4 * i + j) % 4 = j by omega]
theorem new_l0 {R : AV → Mem → Prop} {b : List Int} (hb : BL 16 b) {f : Nat} (h : bNew.l1 R f 1 4 (upto 176 16 (kp b) fun _ => 0)) : bNew.l0 R b (f + 1 + 1 * 4) 0 (lzeros 176) := by
 have key := loop_n (fun f i s => bNew.l0 R b f i s) 4 (fun i => upto 176 (4 * i) (kp b) fun _ => 0) 1 (f + 1)
  (fun g i hi hg => by
   rw [bNew.l0_succ]
   refine ⟨fun _ => ?_, fun q => ?_⟩
   ·have e1 : mul .i64 4 (i : Int) = ((4 * i : Nat) : Int) := mulN_i64 (a := 4) (by omega)
    rw [e1]
    simp only [InB_iff, Low_iff, Fits_iff, NonNeg_iff, nat_cast, nadd_def, nsub_def, nmul_def, Nat.zero_add]
    refine ⟨by omega, ⟨by omega, by omega⟩, by omega, by omega, ?_⟩
    have e2 : lsub (lsub b (4 * i) (16 - 4 * i)) 0 (nmin (llen (lsub b (4 * i) (16 - 4 * i))) 4) = tab 4 (fun k => kp b (4 * i + k)) := by
     rw [llen_def, lsub_len _ _ _ (by rw [hb.len]; omega), nmin_def, show min (16 - 4 * i) 4 = 4 by omega, lsub_lsub _ _ _ _ _ (by omega), lsub_tabbed hb.len (by omega)]
     refine tab_ext fun k hk => ?_
     rw [kp_word _ _ _ hk, kw_lo _ _ hi, Nat.add_zero]
    rw [e2, add1_i64 (by omega), show i * 4 = 4 * i by omega, upto_lput rfl (by omega)]
    exact hg
   ·rw [ilt_false] at q; omega)
  (by
   rw [bNew.l0_succ]
   refine ⟨fun q => ?_, fun _ => ?_⟩
   ·rw [ilt_true] at q; omega
   ·exact h) 0 (Nat.zero_le _)
 rw [show upto 176 (4 * 0) (kp b) (fun _ => 0) = tab 176 (fun _ => 0) from upto_zero, ← lzeros_tab] at key
 exact key
theorem new_l4 {R : AV → Mem → Prop} {w : List Int} (hw : w.length = 176) {f : Nat} (h : ∀ σ, R (.agg [.ints .u8 176 w]) σ) : bNew.l4 R w (f + 1 + 1 * 44) 0 (lzeros 176) := by
 have key := loop_n (fun f i s => bNew.l4 R w f i s) 44 (fun i => upto 176 (4 * i) (lget w) fun _ => 0) 1 (f + 1)
  (fun g i hi hg => by
   rw [bNew.l4_succ]
   refine ⟨fun _ => ?_, fun q => ?_⟩
   ·have e1 : quo .i64 (i : Int) 4 = ((i / 4 : Nat) : Int) := quoN_i64 (b := 4) (by omega)
    have e2 : rem (i : Int) 4 = ((i % 4 : Nat) : Int) := remN (b := 4)
    have e3 : mul .i64 ((i % 4 : Nat) : Int) 4 = ((i % 4 * 4 : Nat) : Int) := mulN_i64 (b := 4) (by omega)
    rw [e1, e2, e3]
    simp only [InB_iff, Low_iff, Fits_iff, NonNeg_iff, NeZ_iff, nat_cast, nadd_def, nsub_def, nmul_def, Nat.zero_add]
    refine ⟨by omega, by decide, by omega, by decide, ⟨by omega, by omega⟩, by omega, by omega, ?_⟩
    have e4 : lsub (lsub (lsub w (i * 4) 4) 0 4) 0 (nmin (llen (lsub (lsub w (i * 4) 4) 0 4)) (16 - i % 4 * 4)) = tab 4 (fun k => lget w (4 * i + k)) := by
     have e5 : lsub (lsub w (i * 4) 4) 0 4 = lsub w (i * 4) 4 := lsub_lsub _ _ _ _ _ (by decide)
     rw [e5, llen_def, lsub_len _ _ _ (by omega), nmin_def, show min 4 (16 - i % 4 * 4) = 4 by omega, e5, lsub_tabbed hw (by omega)]
     exact tab_ext fun k hk => by rw [show i * 4 + k = 4 * i + k by omega]
    rw [e4, add1_i64 (by omega), show i / 4 * 16 + i % 4 * 4 = 4 * i by omega, upto_lput rfl (by omega)]
    exact hg
   ·rw [ilt_false] at q; omega)
  (by
   rw [bNew.l4_succ]
   refine ⟨fun q => ?_, fun _ => ?_⟩
   ·rw [ilt_true] at q; omega
   ·rw [show upto 176 (4 * 44) (lget w) (fun _ => 0) = tab 176 (lget w) from upto_done, ← eq_tab hw]; exact h _) 0 (Nat.zero_le _)
 rw [show upto 176 (4 * 0) (lget w) (fun _ => 0) = tab 176 (fun _ => 0) from upto_zero, ← lzeros_tab] at key
 exact key
theorem lset_word {key : List Int} {i j : Nat} {v : Int} (hj : j < 4) (hv : v = kw key i j) : lset (upto 176 (4 * i + j) (kp key) fun _ => 0) (4 * i + j) v = upto 176 (4 * i + (j + 1)) (kp key) fun _ => 0 := by
 rw [upto_lset (by rw [kp_word _ _ _ hj]; exact hv)]; rfl
theorem word_get {key : List Int} {n i j : Nat} (h : 4 * i + j < n) (hn : n ≤ 176) (hj : j < 4) : lget (upto 176 n (kp key) fun _ => 0) (4 * i + j) = kw key i j := by
 rw [upto_lo h hn, kp_word _ _ _ hj]
theorem word_sub {key : List Int} {n i : Nat} (h : 4 * i + 4 ≤ n) (hn : n ≤ 176) : lsub (upto 176 n (kp key) fun _ => 0) (i * 4) 4 = tab 4 (kw key i) := by
 rw [lsub_tabbed upto_len (by omega)]
 exact tab_ext fun j hj => by rw [show i * 4 + j = 4 * i + j by omega, word_get (by omega) hn hj]
theorem new_round {R : AV → Mem → Prop} {b : List Int} (hb : BL 16 b) (g i : Nat) (h4 : 4 ≤ i) (hi : i < 44) (h : bNew.l1 R g (rcon ((i + 1 - 1) / 4)) ((i + 1 : Nat) : Int) (upto 176 (4 * (i + 1)) (kp b) fun _ => 0)) :
  bNew.l1 R (g + 6) (rcon ((i - 1) / 4)) (i : Int) (upto 176 (4 * i) (kp b) fun _ => 0) := by
 have e1 : sub .i64 (i : Int) 1 = ((i - 1 : Nat) : Int) := subN_i64 (b := 1) (by omega) (by omega)
 have e4 : sub .i64 (i : Int) 4 = ((i - 4 : Nat) : Int) := subN_i64 (b := 4) (by omega) (by omega)
 have er : rem (i : Int) 4 = ((i % 4 : Nat) : Int) := remN (b := 4)
 have ew : lsub (upto 176 (4 * i) (kp b) fun _ => 0) ((i - 1) * 4) 4 = tab 4 (kw b (i - 1)) := word_sub (by omega) (by omega)
 rw [bNew.l1_succ]
 refine ⟨fun _ => ?_, fun q => ?_⟩
 ·rw [e1, er]
  simp only [InB_iff, Low_iff, Fits_iff, NonNeg_iff, NeZ_iff, nat_cast, nadd_def, nsub_def, nmul_def, Nat.zero_add, ew]
  refine ⟨by omega, by omega, by decide, fun q => ?_, fun q => ?_⟩
  ·rw [ieq_true] at q
   have q4 : i % 4 = 0 := by omega
   have hbw := fun j (hj : j < 4) => kw_byte hb (i - 1) j hj
   rw [tab_lget _ (by decide : 1 < 4), tab_lget _ (by decide : 2 < 4), tab_lget _ (by decide : 3 < 4), tab_lget _ (by decide : 0 < 4)]
   refine ⟨⟨by decide, by decide⟩, by decide, ⟨by decide, by decide⟩, by decide, ⟨by decide, by decide⟩, by decide, ⟨by decide, by decide⟩, by decide, hbw 1 (by decide), hbw 2 (by decide), hbw 3 (by decide), hbw 0 (by decide), by decide, by decide, by decide, by decide, ⟨⟨by decide, by decide⟩, rcon_byte _⟩, ?_⟩
   have key := loop_n (fun f j s => bNew.l2 R (rcon ((i - 1) / 4)) (i : Int) (upto 176 (4 * i) (kp b) fun _ => 0) f j s) 4 (fun j => upto 176 (4 * i + j) (kp b) fun _ => 0) 1 (g + 1)
    (fun f j hj hf => by
     rw [bNew.l2_succ]
     refine ⟨fun _ => ?_, fun q => ?_⟩
     ·rw [e4, e1]
      simp only [InB_iff, Low_iff, Fits_iff, NonNeg_iff, NeZ_iff, nat_cast, nadd_def, nsub_def, nmul_def, Nat.zero_add]
      refine ⟨by omega, by omega, by omega, by omega, hj, by omega, by omega, by omega, ?_⟩
      have e : tab 4 (fun j => kt i (kw b (i - 1)) j) = lset (lset (lset (lset (lzeros 4) 0 (bxor IntKind.u8 (fsub (kw b (i - 1) 1)) (rcon ((i - 1) / 4)))) 1 (fsub (kw b (i - 1) 2))) 2 (fsub (kw b (i - 1) 3))) 3 (fsub (kw b (i - 1) 0)) := by
       simp only [tab, List.range_succ, List.range_zero, List.nil_append, List.map_cons, List.map_nil, List.cons_append, lset, lzeros, List.replicate, List.set, kt, q4, if_true, Nat.reduceEqDiff, if_false, Nat.reduceAdd, Nat.reduceMod]
       rw [show i / 4 - 1 = (i - 1) / 4 by omega]
      rw [ew, tab_lget _ (by decide : 1 < 4), tab_lget _ (by decide : 2 < 4), tab_lget _ (by decide : 3 < 4), tab_lget _ (by decide : 0 < 4), ← e, tab_lget _ hj]
      rw [show (i - 4) * 4 + j = 4 * (i - 4) + j by omega, show i * 4 + j = 4 * i + j by omega, word_get (by omega) (by omega) hj, lset_word hj (by rw [kw_hi _ h4 hj]), add1_i64 (by omega)]
      exact hf
     ·rw [ilt_false] at q; omega)
    (by
     rw [bNew.l2_succ]
     refine ⟨fun q => ?_, fun _ => ?_⟩
     ·rw [ilt_true] at q; omega
     ·rw [add1_i64 (by omega)]
      have : fmul 2 (rcon ((i - 1) / 4)) = rcon ((i + 1 - 1) / 4) := by
       rw [show (i + 1 - 1) / 4 = (i - 1) / 4 + 1 by omega]; rfl
      rw [this]; exact h) 0 (Nat.zero_le _)
   exact key
  ·rw [ieq_false] at q
   have q4 : ¬ i % 4 = 0 := by omega
   have key := loop_n (fun f j s => bNew.l3 R (rcon ((i - 1) / 4)) (i : Int) (upto 176 (4 * i) (kp b) fun _ => 0) f j s) 4 (fun j => upto 176 (4 * i + j) (kp b) fun _ => 0) 1 (g + 1)
    (fun f j hj hf => by
     rw [bNew.l3_succ]
     refine ⟨fun _ => ?_, fun q => ?_⟩
     ·rw [e4, e1]
      simp only [InB_iff, Low_iff, Fits_iff, NonNeg_iff, NeZ_iff, nat_cast, nadd_def, nsub_def, nmul_def, Nat.zero_add]
      refine ⟨by omega, by omega, by omega, by omega, hj, by omega, by omega, by omega, ?_⟩
      rw [ew, tab_lget _ hj, show (i - 4) * 4 + j = 4 * (i - 4) + j by omega, show i * 4 + j = 4 * i + j by omega, word_get (by omega) (by omega) hj, lset_word hj (by rw [kw_hi _ h4 hj]; unfold kt; rw [if_neg q4]), add1_i64 (by omega)]
      exact hf
     ·rw [ilt_false] at q; omega)
    (by
     rw [bNew.l3_succ]
     refine ⟨fun q => ?_, fun _ => ?_⟩
     ·rw [ilt_true] at q; omega
     ·rw [add1_i64 (by omega), show (i - 1) / 4 = (i + 1 - 1) / 4 by omega]; exact h) 0 (Nat.zero_le _)
   exact key
 ·rw [ilt_false] at q; omega
theorem new_l1 {R : AV → Mem → Prop} {b : List Int} (hb : BL 16 b) (h : ∀ σ, R (.agg [.ints .u8 176 (ks b)]) σ) : bNew.l1 R (0 + 1 + 1 * 44 + 1 + 6 * (44 - 4)) 1 4 (upto 176 16 (kp b) fun _ => 0) := by
 refine loop_from (fun f i s => bNew.l1 R f s.1 i s.2) 4 44 (fun i => (rcon ((i - 1) / 4), upto 176 (4 * i) (kp b) fun _ => 0)) 6 (0 + 1 + 1 * 44 + 1) (fun g i h4 hi hg => ?_) ?_ 4 (by decide) (by decide)
 ·exact new_round hb g i h4 hi hg
 ·rw [bNew.l1_succ]
  refine ⟨fun q => ?_, fun _ => ?_⟩
  ·rw [ilt_true] at q; omega
  ·show bNew.l4 R (upto 176 176 (kp b) fun _ => 0) _ _ _
   rw [upto_done]
   exact new_l4 (tab_len _ _) h
end Go.Proofs.Ytacnldmmacjpoaa.G
