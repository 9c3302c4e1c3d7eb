import Derived.Test.YtnpfockaigegiaaDropBackH
set_option linter.unusedSimpArgs false
set_option linter.unusedVariables false
namespace Go.Sx
open Go
theorem app_get {L S : List (List Int)} {k : Nat} (h : k < L.length) : llget (L ++ S) k = llget L k := by
 simp only [llget, List.getD]; rw [List.getElem?_append_left h]
theorem app_get2 {L S : List (List Int)} {k : Nat} : llget (L ++ S) (L.length + k) = llget S k := by
 simp only [llget, List.getD]; rw [List.getElem?_append_right (by omega), show L.length + k - L.length = k by omega]
theorem app_idx {L S : List (List Int)} {x : List Int} : idxL (L ++ S) x L.length = idxL L x L.length := by
 unfold idxL
 congr 1
 refine List.filter_congr fun k hk => ?_
 rw [List.mem_range] at hk
 unfold atD; rw [app_get hk]
theorem app_idx_off {L S : List (List Int)} {x : List Int} (h : ∀ j, j < S.length → atD (L ++ S) x (L.length + j) = false) : ∀ m, m ≤ S.length → idxL (L ++ S) x (L.length + m) = idxL L x L.length
 | 0, _ => app_idx
 | m + 1, hm => by
  rw [show L.length + (m + 1) = (L.length + m) + 1 by omega, idx_succ, h m (by omega)]
  exact app_idx_off h m (by omega)
theorem exch_app {L S : List (List Int)} {w : List Int} (hS : ∀ j, j < S.length → nmL (llget S j) = w) {k : Nat} (hk : k < L.length) (hw : rtB (llget L k) = true → nmL (llget L k) ≠ w) : exch1 (L ++ S) k = exch1 L k := by
 unfold exch1
 rw [app_get hk]
 cases hr : rtB (llget L k) with
 | false => rfl
 | true =>
  have e : idxL (L ++ S) (nmL (llget L k)) (L ++ S).length = idxL L (nmL (llget L k)) L.length := by
   rw [List.length_append]
   refine app_idx_off (fun j hj => ?_) _ (Nat.le_refl _)
   cases q : atD (L ++ S) (nmL (llget L k)) (L.length + j) with
   | false => rfl
   | true =>
    have := (at_iff.1 q).2
    rw [app_get2, hS j hj] at this
    exact absurd this.symm (hw hr)
  rw [e]
  by_cases c1 : (idxL L (nmL (llget L k)) L.length).length = 1
  ·rw [if_pos c1, if_pos c1]
  ·rw [if_neg c1, if_neg c1]
   by_cases c2 : (idxL L (nmL (llget L k)) L.length).length = 2
   ·rw [if_pos c2, if_pos c2]
    have mi : (k : Int) ∈ idxL L (nmL (llget L k)) L.length := idx_mem.2 ⟨k, rfl, hk, at_iff.2 ⟨hr, rfl⟩⟩
    obtain ⟨j, hj, hjN, _⟩ := idx_mem.1 (Go.Proofs.Ytnpfockaigegiaa.G.two_other c2 mi)
    rw [hj, nat_cast, app_get hjN]
   ·rw [if_neg c2, if_neg c2]
theorem idx_first {L : List (List Int)} {w : List Int} (h0 : atD L w 0 = true) (h : ∀ k, 0 < k → k < L.length → atD L w k = false) : ∀ t, 0 < t → t ≤ L.length → idxL L w t = [0]
 | 0, h1, _ => absurd h1 (by omega)
 | 1, _, _ => by rw [idx_succ, h0]; rfl
 | t + 2, _, h2 => by
  rw [idx_succ, h (t + 1) (by omega) (by omega)]
  exact idx_first h0 h (t + 1) (by omega) (by omega)
theorem lsub_ext {α : Type} {l l' : List α} {m : Nat} (h : ∀ k, k < m → l[1 + k]? = l'[1 + k]?) : lsub l 1 m = lsub l' 1 m := by
 refine List.ext_getElem? fun k => ?_
 unfold lsub
 rw [List.getElem?_take, List.getElem?_take]
 by_cases q : k < m
 ·rw [if_pos q, if_pos q, List.getElem?_drop, List.getElem?_drop]; exact h k q
 ·rw [if_neg q, if_neg q]
def okw (w o : List Int) : Bool := Nat.ble 8 (llen o) && leq (lsub o 0 8) w
def keepL (w : List Int) (ll : List (List Int)) : List (List Int) := ll.filter fun o => !okw w o
theorem keep_succ {w : List Int} {ll : List (List Int)} {t : Nat} (h : t < ll.length) : keepL w (ll.take (t + 1)) = if okw w (llget ll t) = true then keepL w (ll.take t) else keepL w (ll.take t) ++ [llget ll t] := by
 unfold keepL
 rw [List.take_add_one, llget_some h, Option.toList_some, List.filter_append]
 cases q : okw w (llget ll t) with
 | true => simp [q]
 | false => simp [q]
theorem exch_elem {X : List (List Int)} {k : Nat} (h : k < X.length) : (exchL X)[k]? = some (exch1 X k) := by
 unfold exchL; rw [tab_get?, if_pos h]
end Go.Sx
namespace Go.Proofs.Ytnpfockaigegiaa.G
open Go Go.Sx
set_option maxRecDepth 20000
set_option maxHeartbeats 2000000
theorem ex_sub {X : List (List Int)} (hB : RowsB X) (hN : X.length ≤ 100000) (a m : Nat) : RowsB (lsub (exchL X) a m) ∧ RowsS (lsub (exchL X) a m) := by
 have hm : ∀ p ∈ lsub (exchL X) a m, ∃ i, i < X.length ∧ p = exch1 X i := fun p hp => by
  unfold lsub at hp
  have := List.mem_of_mem_drop (List.mem_of_mem_take hp)
  obtain ⟨i, hi, rfl⟩ := List.mem_map.1 this
  exact ⟨i, List.mem_range.1 hi, rfl⟩
 refine ⟨⟨fun p hp => ?_⟩, ⟨?_, fun p hp => ?_⟩⟩
 ·obtain ⟨i, hi, rfl⟩ := hm p hp; exact ex_bs hB
 ·have : (lsub (exchL X) a m).length ≤ (exchL X).length := by unfold lsub; simp; omega
  rw [exchL_len] at this; omega
 ·obtain ⟨i, hi, rfl⟩ := hm p hp
  have := (ok_iff.1 (ex_ok hi)).2.1; omega
theorem db_k9 {nm a b : List Int} {ll : List (List Int)} {F : Nat} : lback.k9 okR a b nm ll F 3978 := by
 have hq : ∀ w m : List Int, (reqE m = 0) ∨ (reqE m = 1 ∧ llen (reqR w m) = 0) := fun w m => by
  unfold reqE reqR
  cases Nat.ble (llen m) 40 with
  | true => exact Or.inl rfl
  | false => exact Or.inr ⟨rfl, rfl⟩
 have z0 : ieq 0 0 = true := rfl
 have z1 : ieq 1 1 = true := rfl
 have z2 : ieq 1 0 = false := rfl
 have z3 : ieq (ofNat 0) 0 = true := rfl
 have okb : ∀ σ, okR (.one (.bool true)) σ := fun σ => Or.inl rfl
 have okl : ∀ σ, okR (.one (.lit true)) σ := fun σ => Or.inr rfl
 rw [lback.k9_eq okR _ _ _ _ F 3976, lback.k1_eq okR _ _ _ _ F 3876, lback.k3_eq okR _ _ _ _ F 3876, lback.k6_eq okR _ _ _ _ F 3876, lback.k8_eq okR _ _ _ _ F 3876]
 rcases hq (lsub nm 0 8) a with h | ⟨h, h'⟩ <;> rcases hq (lsub nm 0 8) b with g | ⟨g, g'⟩
 ·simp only [h, g, z0, z1, z2, z3, okb, okl, Bool.false_eq_true, Bool.true_eq_false, false_implies, forall_const, true_and, and_true]
 ·simp only [h, g, g', z0, z1, z2, z3, okb, okl, Bool.false_eq_true, Bool.true_eq_false, false_implies, forall_const, true_and, and_true]
 ·simp only [h, h', g, z0, z1, z2, z3, okb, okl, Bool.false_eq_true, Bool.true_eq_false, false_implies, forall_const, true_and, and_true]
 ·simp only [h, h', g, g', z0, z1, z2, z3, okb, okl, Bool.false_eq_true, Bool.true_eq_false, false_implies, forall_const, true_and, and_true]
theorem db_done {nm a b : List Int} {ll L R : List (List Int)} {x0 : Int} {F : Nat} (hn : nm.length = 8) (hnm : Bs nm) (ha : Bs a) (hb : Bs b) (qa : a.length ≤ 40) (qb : b.length ≤ 40)
  (hL : L = reqR (lsub nm 0 8) a :: R) (hLB : RowsB L) (hN : L.length ≤ 3000) (hR : ∀ k, 0 < k → k < L.length → okw (lsub nm 0 8) (llget L k) = false) : lback.k38 okR ll x0 nm b L a F 3996 := by
 have w8 : (lsub nm 0 8).length = 8 := by unfold lsub; simp; omega
 have ww : lsub (lsub nm 0 8) 0 8 = lsub nm 0 8 := by unfold lsub; simp [List.take_take]
 have hrq : ∀ m : List Int, m.length ≤ 40 → reqR (lsub nm 0 8) m = lsub nm 0 8 ++ m := fun m hm => by
  unfold reqR; rw [Nat.ble_eq_true_of_le (by rw [llen_def]; exact hm), ww]
 have hA := hrq a qa
 have hB := hrq b qb
 generalize hw : lsub nm 0 8 = w at *
 generalize hAA : reqR w a = A at *
 generalize hBB : reqR w b = B at *
 have bw : Bs w := by rw [← hw]; unfold lsub; exact (hnm.drop 0).take 8
 have nmw : ∀ m, nmL (w ++ m) = w := fun m => by unfold nmL lsub; rw [List.drop_zero, ← w8, List.take_left]
 have rtw : ∀ m : List Int, m.length ≤ 40 → rtB (w ++ m) = true := fun m hm => rt_of (by simp; omega) (by simp; omega)
 have tail : ∀ m : List Int, lsub (w ++ m) 8 (nsub (llen (w ++ m)) 8) = m := fun m => by
  unfold nsub; rw [llen_def, lsub_drop, ← w8, List.drop_left]
 have n0 : 0 < L.length := by rw [hL]; simp
 have g0 : llget L 0 = A := by rw [hL]; rfl
 have at0 : atD L w 0 = true := at_iff.2 ⟨by rw [g0, hA]; exact rtw a qa, by rw [g0, hA]; exact nmw a⟩
 have atk : ∀ k, 0 < k → k < L.length → atD L w k = false := fun k h1 h2 => by
  cases q : atD L w k with
  | false => rfl
  | true =>
   obtain ⟨q1, q2⟩ := at_iff.1 q
   have := hR k h1 h2
   unfold okw at this
   rw [Nat.ble_eq_true_of_le (by rw [llen_def]; exact (rt_yes q1).1), show lsub (llget L k) 0 8 = w from q2] at this
   rw [leq_true.2 rfl] at this
   cases this
 have i1 : idxL L w L.length = [0] := idx_first at0 atk L.length n0 (Nat.le_refl _)
 have atB : ∀ {S : List (List Int)} {j : Nat}, llget S j = B → atD (L ++ S) w (L.length + j) = true := fun h => at_iff.2 ⟨by rw [app_get2, h, hB]; exact rtw b qb, by rw [app_get2, h, hB]; exact nmw b⟩
 have atB0 : ∀ {S : List (List Int)}, llget S 0 = B → atD (L ++ S) w L.length = true := fun h => atB (j := 0) h
 have i2 : idxL (L ++ [B]) w (L ++ [B]).length = [0, (L.length : Int)] := by
  rw [List.length_append]
  show idxL _ w (L.length + 1) = _
  rw [idx_succ, if_pos (atB0 (S := [B]) rfl), app_idx, i1]; rfl
 have i3 : (idxL (L ++ [B, B]) w (L ++ [B, B]).length).length = 3 := by
  rw [List.length_append]
  show (idxL _ w ((L.length + 1) + 1)).length = 3
  rw [idx_succ, if_pos (atB (S := [B, B]) (j := 1) rfl), idx_succ, if_pos (atB0 (S := [B, B]) rfl), app_idx, i1]; rfl
 have e10 : llget (exchL L) 0 = [0] := by
  rw [exchL_get n0]; unfold exch1
  rw [g0, hA, if_pos (rtw a qa), nmw, i1]; rfl
 have m2 : L.length < (L ++ [B]).length := by simp
 have m3 : L.length < (L ++ [B, B]).length := by simp
 have gn2 : llget (L ++ [B]) L.length = B := app_get2 (k := 0)
 have gn3 : llget (L ++ [B, B]) L.length = B := app_get2 (k := 0)
 have e20 : llget (exchL (L ++ [B])) 0 = 1 :: b := by
  rw [exchL_get (by omega)]; unfold exch1
  rw [app_get n0, g0, hA, if_pos (rtw a qa), nmw, i2, if_neg (by simp), if_pos (by rfl)]
  have : nat (lget [0, (L.length : Int)] 0 + lget [0, (L.length : Int)] 1 - ((0 : Nat) : Int)) = L.length := by
   show nat (0 + (L.length : Int) - 0) = _
   simp only [nat]; omega
  rw [this, gn2, hB, tail]
 have e2n : llget (exchL (L ++ [B])) L.length = 1 :: a := by
  rw [exchL_get m2]; unfold exch1
  rw [gn2, hB, if_pos (rtw b qb), nmw, ← hB, i2, if_neg (by simp), if_pos (by rfl)]
  have : nat (lget [0, (L.length : Int)] 0 + lget [0, (L.length : Int)] 1 - (L.length : Int)) = 0 := by
   show nat (0 + (L.length : Int) - L.length) = _
   simp only [nat]; omega
  rw [this, app_get n0, g0, hA, tail]
 have e30 : llget (exchL (L ++ [B, B])) 0 = [2] := by
  rw [exchL_get (by omega)]; unfold exch1
  rw [app_get n0, g0, hA, if_pos (rtw a qa), nmw, i3, if_neg (by omega), if_neg (by omega)]
 have e3n : llget (exchL (L ++ [B, B])) L.length = [2] := by
  rw [exchL_get m3]; unfold exch1
  rw [gn3, hB, if_pos (rtw b qb), nmw, ← hB, i3, if_neg (by omega), if_neg (by omega)]
 have same : ∀ S : List (List Int), (∀ j, j < S.length → nmL (llget S j) = w) → lsub (exchL L) 1 (L.length - 1) = lsub (exchL (L ++ S)) 1 (L.length - 1) := fun S hS => by
  refine lsub_ext fun k hk => ?_
  rw [exch_elem (by omega), exch_elem (by rw [List.length_append]; omega), exch_app hS (by omega) (fun q1 q2 => ?_)]
  have := atk (1 + k) (by omega) (by omega)
  rw [at_iff.2 ⟨q1, q2⟩] at this
  cases this
 have hLB2 : ∀ S : List (List Int), (∀ p ∈ S, p = B) → RowsB (L ++ S) := fun S hS => ⟨fun p hp => by
  rcases List.mem_append.1 hp with q | q
  ·exact hLB.all p q
  ·rw [hS p q, hB]; exact bw.app hb⟩
 have s1 := ex_sub hLB (by omega) 1 (L.length - 1)
 have s2 := ex_sub (hLB2 [B] (by simp)) (by simp; omega) 1 (L.length - 1)
 have s3 := ex_sub (hLB2 [B, B] (by simp)) (by simp; omega) 1 (L.length - 1)
 have q2 : llEq (lsub (exchL L) 1 (L.length - 1)) (lsub (exchL (L ++ [B])) 1 (L.length - 1)) = true := llEq_true.2 (same [B] fun j hj => by
  obtain rfl : j = 0 := by simp at hj; omega
  show nmL B = w; rw [hB, nmw])
 have q3 : llEq (lsub (exchL L) 1 (L.length - 1)) (lsub (exchL (L ++ [B, B])) 1 (L.length - 1)) = true := llEq_true.2 (same [B, B] fun j hj => by
  have : llget [B, B] j = B := by
   rcases (by simp at hj; omega : j = 0 ∨ j = 1) with rfl | rfl <;> rfl
  rw [this, hB, nmw])
 have l1 : (exchL L).length = L.length := exchL_len _
 have l2 : (exchL (L ++ [B])).length = L.length + 1 := by rw [exchL_len]; simp
 have l3 : (exchL (L ++ [B, B])).length = L.length + 2 := by rw [exchL_len]; simp
 have c2 : lcat L [B] = L ++ [B] := rfl
 have c3 : lcat L [B, B] = L ++ [B, B] := rfl
 have c1 : lcat ([] : List (List Int)) L = L := rfl
 have ok : ∀ m : List Int, m.length ≤ 40 → okA (1 :: m) = true := fun m hm => ok_iff.2 ⟨by simp, by simp; omega, by show (1 : Int) ≤ 3; decide, Or.inl rfl⟩
 have aH : ∀ m : List Int, m.length ≤ 40 → ansH (1 :: m) = 1 := fun m hm => by unfold ansH; rw [ok m hm]; rfl
 have aE : ∀ m : List Int, m.length ≤ 40 → ansE (1 :: m) = 0 := fun m hm => by unfold ansE; rw [ok m hm]
 have aR : ∀ m : List Int, m.length ≤ 40 → ansR (1 :: m) = m := fun m hm => by unfold ansR; rw [ok m hm]; rfl
 have b1 : ∀ {m : List Int}, Bs m → Bs (1 :: m) := fun h => Bs.cons (by decide) (by decide) h
 have b0 : Bs [0] := Bs.cons (by decide) (by decide) Bs.nil
 have b2 : Bs [2] := Bs.cons (by decide) (by decide) Bs.nil
 have d1 : ine (L.length : Int) (L.length : Int) = false := ine_false.2 rfl
 have a1 : add .i64 (L.length : Int) 1 = ((L.length + 1 : Nat) : Int) := add1_i64 (by omega)
 have a2 : add .i64 (L.length : Int) 2 = ((L.length + 2 : Nat) : Int) := addN_i64 (a := L.length) (b := 2) (by omega)
 have d2 : ine ((L.length + 1 : Nat) : Int) ((L.length + 1 : Nat) : Int) = false := ine_false.2 rfl
 have d3 : ine ((L.length + 2 : Nat) : Int) ((L.length + 2 : Nat) : Int) = false := ine_false.2 rfl
 have le : ∀ l : List Int, leq l l = true := fun l => leq_true.2 rfl
 have bt : bnot true = false := rfl
 have i11 : ieq 1 1 = true := rfl
 have i00 : ieq 0 0 = true := rfl
 have rm : ∀ n : Nat, n ≤ 3100 → Room n 24 := fun n hn => ⟨by omega⟩
 have f1 : ∀ {x y : Nat}, x ≤ y → Fits x y := fun h => ⟨h⟩
 have n1 : NonNeg 1 := ⟨by omega⟩
 have nL : NonNeg (L.length : Int) := ⟨by omega⟩
 have ibL2 : InB (L.length : Int) (L.length + 1) := ⟨by omega, by omega⟩
 have ibL3 : InB (L.length : Int) (L.length + 2) := ⟨by omega, by omega⟩
 have ib1 : InB 0 L.length := ⟨by omega, by omega⟩
 have ib2 : InB 0 (L.length + 1) := ⟨by omega, by omega⟩
 have ib3 : InB 0 (L.length + 2) := ⟨by omega, by omega⟩
 have okb : ∀ σ, okR (.one (.bool true)) σ := fun σ => Or.inl rfl
 have fa : Fits (llen (1 :: a)) 200000000000000 := f1 (by rw [llen_def]; simp; omega)
 have fb : Fits (llen (1 :: b)) 200000000000000 := f1 (by rw [llen_def]; simp; omega)
 have S1 : ∀ σ, okR (.one (.bool true)) σ := okb
 have g1 : Fits 1 L.length := f1 n0
 have g2 : Fits L.length (L.length + 1) := f1 (by omega)
 have g3 : Fits L.length (L.length + 2) := f1 (by omega)
 have k28 : lback.k28 okR L nm b a ll F 3978 := by
  rw [lback.k28_eq okR _ _ _ _ _ F 3976]
  simp only [hw, hBB, c1, c2, c3, ofNat_def, nat_cast, llen_def, e20, e2n, aH _ qa, aH _ qb, aE _ qa, aE _ qb, aR _ qa, aR _ qb, i11, i00, le, l1, l2, l3, nsub, q2, q3, lback.k20_eq okR _ _ _ _ _ _ _ _ F 3876, okb, n1, nL, g1, g2, g3, s1.1, s1.2, s2.1, s2.2, s3.1, s3.2, ha, hb, Bool.false_eq_true, Bool.true_eq_false, false_implies, forall_const, true_and, and_true]
 rw [lback.k38_eq okR _ _ _ _ _ _ F 3993, lback.k37_eq okR _ _ _ _ _ _ F 3991, lback.k36_eq okR _ _ _ _ _ _ F 3987, lback.k35_eq okR _ _ _ _ _ _ F 3981, lback.k31_eq okR _ _ _ _ _ _ F 3981, lback.k30_eq okR _ _ _ _ _ F 3980, lback.k29_eq okR _ _ _ _ _ F 3978]
 have r1 : Room (nadd 0 (llen L)) 24 := rm _ (by show 0 + L.length ≤ _; omega)
 have r2 : Room (nadd (llen L) (llen [B])) 24 := rm _ (by show L.length + 1 ≤ _; omega)
 have r3 : Room (nadd (llen L) (llen [B, B])) 24 := rm _ (by show L.length + 2 ≤ _; omega)
 have f2 : Fits (llen L) 1000000000 := f1 (by rw [llen_def]; omega)
 have f3 : Fits (llen (L ++ [B])) 1000000000 := f1 (by rw [llen_def]; simp; omega)
 have f4 : Fits (llen (L ++ [B, B])) 1000000000 := f1 (by rw [llen_def]; simp; omega)
 simp only [hw, hBB, c1, c2, c3, r1, r2, r3, f2, f3, f4, true_and]
 simp only [ofNat_def, nat_cast, llen_def, l1, l2, l3, d1, a1, a2, d2, d3, e10, e20, e2n, e30, e3n, le, bt, b0, b2, ib1, ib2, ib3, ibL2, ibL3, b1 ha, b1 hb, k28, Bool.false_eq_true, Bool.true_eq_false, false_implies, forall_const, true_and, and_true]
 exact ⟨fb, fa⟩
theorem db_l0 {nm a b : List Int} {ll : List (List Int)} (hn : nm.length = 8) (hnm : Bs nm) (ha : Bs a) (hb : Bs b) (qa : a.length ≤ 40) (qb : b.length ≤ 40) (hB : RowsB ll) (hN : ll.length ≤ 2048) :
  ∃ F, lback.l0 okR ll nm b a F 0 [reqR (lsub nm 0 8) a] := by
 have w8 : (lsub nm 0 8).length = 8 := by unfold lsub; simp; omega
 have ww : lsub (lsub nm 0 8) 0 8 = lsub nm 0 8 := by unfold lsub; simp [List.take_take]
 have bw : Bs (lsub nm 0 8) := by unfold lsub; exact (hnm.drop 0).take 8
 have bA : Bs (reqR (lsub nm 0 8) a) := by
  unfold reqR
  split
  ·rw [ww]; exact bw.app ha
  ·exact Bs.nil
 have kl : ∀ t, (keepL (lsub nm 0 8) (ll.take t)).length ≤ 2048 := fun t => by
  have h1 := List.length_filter_le (fun o => !okw (lsub nm 0 8) o) (ll.take t)
  have h2 : (ll.take t).length ≤ ll.length := by simp; omega
  show (List.filter _ _).length ≤ _
  omega
 obtain ⟨F, hF⟩ := loop_ex (fun f i (x : List (List Int)) => lback.l0 okR ll nm b a f i x) ll.length (fun t => reqR (lsub nm 0 8) a :: keepL (lsub nm 0 8) (ll.take t)) (fun F t ht hx => ⟨F + 1, by
  have e1 : ilt (t : Int) (ofNat (llen ll)) = true := by rw [ilt_true, ofNat_def, llen_def]; omega
  have ib : InB (t : Int) (llen ll) := ⟨by omega, by rw [llen_def]; omega⟩
  have a1 : add .i64 (t : Int) 1 = ((t + 1 : Nat) : Int) := add1_i64 (by omega)
  have bg : Bs (llget ll t) := hB.all _ (List.mem_of_getElem? (llget_some ht))
  simp only [keep_succ ht] at hx
  have rm : Room (nadd (llen (reqR (lsub nm 0 8) a :: keepL (lsub nm 0 8) (ll.take t))) (llen [llget ll t])) 24 := ⟨by
   have := kl t
   show (5 * (((keepL (lsub nm 0 8) (ll.take t)).length + 1) + 1) + 4096) * 24 ≤ _
   omega⟩
  show lback.l0 okR ll nm b a (F + 1) (t : Int) (reqR (lsub nm 0 8) a :: keepL (lsub nm 0 8) (ll.take t))
  rw [lback.l0_succ, lback.k39_eq okR _ _ _ _ _ _ F 3996, e1, lback.k18_eq okR _ _ _ _ _ _ F 3991, lback.k17_eq okR _ _ _ _ _ _ F 3988, lback.k14_eq okR _ _ _ _ _ _ F 3985, lback.k12_eq okR _ _ _ _ _ _ F 3985, lback.k11_eq okR _ _ _ _ _ _ F 3885, lback.k13_eq okR _ _ _ _ _ _ F 3885, lback.k16_eq okR _ _ _ _ _ _ F 3985, lback.k15_eq okR _ _ _ _ _ _ F 3885, nat_cast, a1, ww]
  refine dr_tt ⟨ib, fun q => ⟨⟨⟨by omega⟩, ⟨?_⟩⟩, ⟨by omega⟩, ⟨?_, bw⟩, fun q2 => ⟨rm, ?_⟩, fun q2 => ?_⟩, fun q => ⟨rm, ?_⟩⟩
  ·rw [ilt_false, ofNat_def, llen_def] at q; rw [llen_def]; omega
  ·unfold lsub; exact (bg.drop 0).take 8
  ·rw [bnot_true] at q2
   have : okw (lsub nm 0 8) (llget ll t) = false := by unfold okw; rw [q2, Bool.and_false]
   rw [this, if_neg (by simp)] at hx
   exact hx
  ·rw [ilt_false, ofNat_def, llen_def] at q
   have e2 : leq (lsub (llget ll t) 0 8) (lsub nm 0 8) = true := by
    cases e : leq (lsub (llget ll t) 0 8) (lsub nm 0 8) with
    | true => rfl
    | false => rw [e] at q2; cases q2
   have : okw (lsub nm 0 8) (llget ll t) = true := by unfold okw; rw [e2, Nat.ble_eq_true_of_le (by rw [llen_def]; omega)]; rfl
   rw [this, if_pos rfl] at hx
   exact hx
  ·rw [ilt_true, ofNat_def, llen_def] at q
   have : okw (lsub nm 0 8) (llget ll t) = false := by
    unfold okw
    cases e : Nat.ble 8 (llen (llget ll t)) with
    | true => have := Nat.le_of_ble_eq_true e; rw [llen_def] at this; omega
    | false => rfl
   rw [this, if_neg (by simp)] at hx
   exact hx⟩) ⟨0 + 1, by
  have e1 : ilt (ll.length : Int) (ofNat (llen ll)) = false := by rw [ilt_false, ofNat_def, llen_def]; omega
  rw [lback.l0_succ, lback.k39_eq okR _ _ _ _ _ _ 0 3996, e1]
  have hm : ∀ o ∈ keepL (lsub nm 0 8) (ll.take ll.length), o ∈ ll ∧ okw (lsub nm 0 8) o = false := fun o ho => by
   unfold keepL at ho
   obtain ⟨h1, h2⟩ := List.mem_filter.1 ho
   exact ⟨List.mem_of_mem_take h1, by simpa using h2⟩
  refine dr_ff (db_done hn hnm ha hb qa qb rfl ⟨fun p hp => ?_⟩ ?_ fun k h1 h2 => ?_)
  ·rcases List.mem_cons.1 hp with rfl | q
   ·exact bA
   ·exact hB.all _ (hm p q).1
  ·have := kl ll.length
   rw [List.length_cons]; omega
  ·obtain ⟨j, rfl⟩ : ∃ j, k = j + 1 := ⟨k - 1, by omega⟩
   rw [List.length_cons] at h2
   exact (hm _ (List.mem_of_getElem? (llget_some (l := keepL (lsub nm 0 8) (ll.take ll.length)) (i := j) (by omega)))).2⟩ 0 (Nat.zero_le _)
 exact ⟨F, hF⟩
theorem dropBack_plain {nm a b : List Int} {ll : List (List Int)} (hn : nm.length = 8) (hnm : Bs nm) (ha : Bs a) (hb : Bs b) (la : a.length ≤ 200000000000000) (lb : b.length ≤ 200000000000000) (hS : RowsS ll) (hB : RowsB ll) :
  ∃ f, Has (callsx Try.prog gamD5 [⟨11, [.rows .u8], true, false⟩, ⟨9, [.ints .u8], false, false⟩, ⟨777777, [], true, false⟩] Try.f7 f [.agg [.ints .u8 8 nm, .cells [.vec 200000], .cells [.vec 200001], .cells [.vec 200002]]] [(200000, .rview [.ints .u8 a]), (200001, .rview [.ints .u8 b]), (200002, .rview [.rows .u8 ll])] fun av _ => av = .one (.bool true) ∨ av = .one (.lit true)) := by
 have fa : Fits (llen a) 200000000000000 := ⟨la⟩
 have fb : Fits (llen b) 200000000000000 := ⟨lb⟩
 have f8 : Fits 8 8 := ⟨by omega⟩
 have re : ∀ m : List Int, bnot (beq2 (ieq (reqE m) 0) (ile (ofNat (llen m)) 40)) = false ∧ (m.length ≤ 40 → reqE m = 0) ∧ (¬ m.length ≤ 40 → reqE m = 1) := fun m => by
  unfold reqE
  by_cases q : m.length ≤ 40
  ·rw [Nat.ble_eq_true_of_le (by rw [llen_def]; exact q)]
   have : ile (ofNat (llen m)) 40 = true := by simp only [ile, decide_eq_true_eq]; rw [ofNat_def, llen_def]; omega
   rw [this]
   exact ⟨rfl, fun _ => rfl, fun h => absurd q h⟩
  ·have e : Nat.ble (llen m) 40 = false := by
    cases e : Nat.ble (llen m) 40 with
    | false => rfl
    | true => exact absurd (Nat.le_of_ble_eq_true e) q
   rw [e]
   have : ile (ofNat (llen m)) 40 = false := by simp only [ile, decide_eq_false_iff_not]; rw [ofNat_def, llen_def]; omega
   rw [this]
   exact ⟨rfl, fun h => absurd h q, fun _ => rfl⟩
 obtain ⟨a1, a2, a3⟩ := re a
 obtain ⟨b1, b2, b3⟩ := re b
 have start : ∀ F, lback.k45 okR a b nm ll F 3983 → Has (callsx Try.prog gamD5 [⟨11, [.rows .u8], true, false⟩, ⟨9, [.ints .u8], false, false⟩, ⟨777777, [], true, false⟩] Try.f7 (F + 1) [.agg [.ints .u8 8 nm, .cells [.vec 200000], .cells [.vec 200001], .cells [.vec 200002]]] [(200000, .rview [.ints .u8 a]), (200001, .rview [.ints .u8 b]), (200002, .rview [.rows .u8 ll])] fun av _ => av = .one (.bool true) ∨ av = .one (.lit true)) := fun F h => ⟨by
  show callsx Try.prog gamD5 _ _ (F + 1) _ _ okR
  rw [lback_vc, lback.k51_eq okR _ _ _ _ F 3994, lback.k50_eq okR _ _ _ _ F 3991, lback.k49_eq okR _ _ _ _ F 3989, lback.k48_eq okR _ _ _ _ F 3987, lback.k47_eq okR _ _ _ _ F 3981, lback.k46_eq okR _ _ _ _ F 3981, a1, b1]
  exact ⟨f8, fa, fb, fun _ => dr_ff h, fun q => (by cases q)⟩⟩
 have i00 : ine 0 0 = false := rfl
 have i10 : ine 1 0 = true := rfl
 by_cases qa : a.length ≤ 40
 ·by_cases qb : b.length ≤ 40
  ·cases hg : greatB ll with
   | true =>
    refine ⟨0 + 1, start 0 ?_⟩
    rw [lback.k45_eq okR _ _ _ _ 0 3978, a2 qa, b2 qb, i00, lback.k44_eq okR _ _ _ _ 0 3978, hg]
    exact ⟨fun _ => ⟨fun _ => ⟨hS, dr_tt db_k9⟩, fun q => (by cases q)⟩, fun q => (by cases q)⟩
   | false =>
    have hN := great_few hg
    obtain ⟨F, hF⟩ := db_l0 hn hnm ha hb qa qb hB hN
    have w8 : (lsub nm 0 8).length = 8 := by unfold lsub; simp; omega
    have ww : lsub (lsub nm 0 8) 0 8 = lsub nm 0 8 := by unfold lsub; simp [List.take_take]
    have bw : Bs (lsub nm 0 8) := by unfold lsub; exact (hnm.drop 0).take 8
    have hA : reqR (lsub nm 0 8) a = lsub nm 0 8 ++ a := by
     unfold reqR; rw [Nat.ble_eq_true_of_le (by rw [llen_def]; exact qa), ww]
    have tl : ∀ w : List Int, w.length = 8 → lsub (w ++ a) 8 (nsub (llen (w ++ a)) 8) = a ∧ lsub (w ++ a) 0 8 = w := fun w w8 => by
     constructor
     ·unfold nsub; rw [llen_def, lsub_drop, ← w8, List.drop_left]
     ·unfold lsub; rw [List.drop_zero, ← w8, List.take_left]
    obtain ⟨t1, t2⟩ := tl _ w8
    have e1 : ine (ofNat (llen (lsub nm 0 8 ++ a))) (add .i64 8 (ofNat (llen a))) = false := by
     have := addN_i64 (a := 8) (b := a.length) (by omega)
     rw [ine_false, ofNat_def, ofNat_def, llen_def, llen_def, List.length_append, w8]
     exact this.symm
    have f1 : Fits 8 (llen (lsub nm 0 8 ++ a)) := ⟨by rw [llen_def, List.length_append, w8]; omega⟩
    have n8 : NonNeg 8 := ⟨by omega⟩
    have le : ∀ l : List Int, leq l l = true := fun l => leq_true.2 rfl
    have bt : bnot true = false := rfl
    rw [hA] at hF
    refine ⟨F + 1, start F ?_⟩
    rw [lback.k45_eq okR _ _ _ _ F 3978, a2 qa, b2 qb, i00, lback.k44_eq okR _ _ _ _ F 3978, hg, lback.k43_eq okR _ _ _ _ F 3971, lback.k42_eq okR _ _ _ _ F 3971, lback.k41_eq okR _ _ _ _ F 3967, lback.k40_eq okR _ _ _ _ F 3867, hA, t1, t2, e1, le, ww, le, bt]
    exact ⟨fun _ => ⟨fun _ => ⟨hS, dr_ff ⟨fun _ => ⟨⟨n8, f1⟩, ⟨ha, ha⟩, fun _ => ⟨⟨n8, f1⟩, f8, ⟨bw, bw⟩, dr_ff hF⟩, fun q => (by cases q)⟩, fun q => (by cases q)⟩⟩, fun q => (by cases q)⟩, fun q => (by cases q)⟩
  ·refine ⟨0 + 1, start 0 ?_⟩
   rw [lback.k45_eq okR _ _ _ _ 0 3978, a2 qa, b3 qb, i00, i10]
   exact ⟨fun _ => ⟨fun q => (by cases q), fun _ => db_k9⟩, fun q => (by cases q)⟩
 ·refine ⟨0 + 1, start 0 ?_⟩
  rw [lback.k45_eq okR _ _ _ _ 0 3978, a3 qa, i10]
  exact ⟨fun q => (by cases q), fun _ => db_k9⟩
end Go.Proofs.Ytnpfockaigegiaa.G
namespace Go.Sx
open Go Go.ChangeShapes Go.WideShapes Go.ChangeAt Go.RowKit
inductive KF where
 | ks (l : List Kd)
 | recs (l : List Kd) (bytes : Nat)
def KF.width : KF → Nat
 | .ks l => Sx.width l
 | .recs _ _ => 1
structure RecsIn (w : World) (l : List Kd) (bytes : Nat) (A : Option Addr) (len cap : Nat) (L : Loc) (cols : List Col) : Prop where
 rep : VRep w L cols
 val : Value.slice A len cap = .slice L.a L.len L.cap
 kds : kdsOf cols = l
 wf : ∀ col ∈ cols, col.wf
 size : L.len * bytes ≤ reachBytes
def KF.at (w : World) (k : KF) (cs : List Value) (o : Nat) : Prop :=
 match k with
 | .ks l => KdsAt w l cs o
 | .recs l b => ∃ A len cap L cols, cs[o]? = some (.slice A len cap) ∧ RecsIn w l b A len cap L cols
def KFsAt (w : World) : List KF → List Value → Nat → Prop
 | [], _, _ => True
 | k :: r, cs, o => k.at w cs o ∧ KFsAt w r cs (o + k.width)
def fieldF (P : Program) (t : TypeId) : Option KF :=
 match kindsO P 8 t with
 | some ks => some (.ks ks)
 | none => match P.underlying t with
  | some (.slice e) => match kindsO P 8 e with
   | some ks => if 0 < Sx.width ks ∧ P.cellsOf e = Sx.width ks then some (.recs ks (P.bytesOf e)) else none
   | none => none
  | _ => none
def fieldsF (P : Program) : List Field → Nat → Option (List KF)
 | [], _ => some []
 | fd :: r, o => match fieldF P fd.type, fieldsF P r (o + P.cellsOf fd.type) with
  | some k1, some k2 => if fd.offset = o ∧ P.cellsOf fd.type = k1.width then some (k1 :: k2) else none
  | _, _ => none
section
variable {H : Type} {enc : TypeId × Value → H} {P : Program} {w : World}
theorem recs_of_trod {t e : TypeId} {ks : List Kd} {fuel : Nat} {cs0 : List Value} {x : DataW H × List MemPlace} (ht : P.underlying t = some (.slice e)) (hk : kindsO P 8 e = some ks) (hp : 0 < width ks) (hc : P.cellsOf e = width ks)
  (hf : DataW.trod enc P w 0 (fun _ => true) true fuel t cs0 = some x) (hall : ∀ n ∈ x.1.weights P t, n ≤ reachBytes) :
  ∃ A len cap L cols, cs0 = [.slice A len cap] ∧ RecsIn w ks (P.bytesOf e) A len cap L cols := by
 rcases Go.Deep.open_slice ht hf with ⟨hcs, _⟩ | ⟨a, len', cap', m, n, D, Pl, hcs, _, hl, hm, hmm, hx, hi⟩
 ·have hz := nil_rep (w := w) hp
  refine ⟨none, 0, 0, loc0, ks.map Kd.nil, hcs, hz.1, rfl, nil_kds ks, fun col hcol => ?_, by simp [loc0]⟩
  obtain ⟨k, _, rfl⟩ := List.mem_map.1 hcol
  cases k <;> simp [Kd.nil, Col.wf]
 ·simp only [if_true] at hmm
  subst hmm
  have hx1 := hx
  have each : ∀ r, r < m → ∃ cs', (∀ t, t < width ks → w.cell? (a.add (r * width ks + t)) = cs'[t]?) ∧ KdsAt w ks cs' 0 := by
   intro r hr
   obtain ⟨cs', h1, h2⟩ := hi r hr
   obtain ⟨_, g1, g2⟩ := World.cells?_some h1
   have hwt : ∀ n ∈ (D r).weights P e, n ≤ reachBytes := fun n hn => hall n (by
    rw [hx1]
    simp only [DataW.weights, ht]
    refine List.mem_cons_of_mem _ (List.mem_append.2 ?_)
    by_cases hq : r < len'
    ·exact Or.inl (weightsAll_mem (i := r) (d := D r) (by rw [range_get, if_pos hq]) n hn)
    ·exact Or.inr (weightsAll_mem (i := r - len') (d := D r) (by rw [range_get, if_pos (by omega), show len' + (r - len') = r by omega]) n hn))
   obtain ⟨g3, g4⟩ := kinds_of_trod 8 hk h2 hwt
   refine ⟨cs', fun t ht => ?_, g4⟩
   rw [← g2 t (by rw [hc]; exact ht), hc, addr_add_add]
  obtain ⟨CS, hCS⟩ := choose_range each
  obtain ⟨cs, E, b1, b2, b3, b4⟩ := build_cols (len := len') (CS := CS) ks 0 fun r hr => (hCS r (by omega)).2
  have hcell : ∀ i, i < len' → ∀ t, t < width ks → ∀ L : Loc, (∀ c r, L.el c r = E c r) → w.cell? (a.add (i * width ks + t)) = some (rowVal L cs 0 i t) := fun i hi t ht L hL => by
   rw [(hCS i (by omega)).1 t ht]
   have := b3 L 0 (fun c r => by rw [Nat.zero_add]; exact hL c r) i hi t ht
   rwa [Nat.zero_add] at this
  have hsp : 0 < len' → a.spot = none := fun hp' => by
   have h0 := hcell 0 hp' 0 hp ⟨0, 0, none, 0, 0, E⟩ (fun _ _ => rfl)
   simp only [Nat.zero_mul, Nat.add_zero] at h0
   have : a.add 0 = a := by simp [Addr.add]
   rw [this] at h0
   exact spot_none h0
  refine ⟨some a, len', m, ⟨a.block, a.off, some a, len', m, E⟩, cs, hcs, ?_, rfl, b1, fun col hcol => (b2 col hcol).2, ?_⟩
  ·refine ⟨fun q => by subst q; simp [kdsOf] at b1; subst b1; simp [width] at hp, by simpa [cwidth, b1] using hp, fun col hcol => (b2 col hcol).1, hl, fun q => ?_, fun i hi t ht => ?_, fun c k ll hc i l hi => b4 c k ll hc i l hi⟩
   ·have := hsp (Nat.pos_of_ne_zero q)
    cases a
    simp only at this; subst this; rfl
   ·have hw' : cwidth cs = width ks := by simp [cwidth, b1]
    rw [hw'] at ht ⊢
    have := hsp (by simp only at hi; omega)
    have e : (Loc.at ⟨a.block, a.off, some a, len', m, E⟩ (i * width ks + t)) = a.add (i * width ks + t) := by
     cases a; simp only at this; subst this; simp [Loc.at, Addr.add]
    rw [e]
    exact hcell i hi t ht _ (fun _ _ => rfl)
  ·have := hall ((((List.range len').map D).length + ((List.range (m - len')).map fun j => D (len' + j)).length) * P.bytesOf e) (by rw [hx1]; simp [DataW.weights, ht])
   simp only [List.length_map, List.length_range] at this
   exact Nat.le_trans (Nat.mul_le_mul_right _ (by show len' ≤ _; omega)) this
theorem open_structF {t : TypeId} {fs : Array Field} {ks : List KF} {n0 : Nat} {v : Value} {d : DataW H} {ps : List MemPlace} {r : Reach} {b0 : Nat} (hu : P.underlying t = some (.struct fs)) (hk : fieldsF P fs.toList 0 = some ks) (hn0 : P.cellsOf t = n0) (hv : Value.okWide P w r b0 t v)
  (h : DataW.Trod enc P w 0 (fun _ => true) true t v d ps) {ts : List TypeId} {ds : List (DataW H)} (hsz : (DataW.weightsEach P ts ds).all (· ≤ reachBytes) = true) {j : Nat} (htj : ts[j]? = some t) (hdj : ds[j]? = some d) :
  ∃ cs : List Value, v = .agg cs.toArray ∧ cs.length = n0 ∧ KFsAt w ks cs 0 := by
 obtain ⟨csA, rfl, _⟩ := okWide_struct hu hv
 obtain ⟨fuel, htr⟩ := h
 have hz : ∀ n ∈ d.weights P t, n ≤ reachBytes := fun n hn => by
  have := List.all_eq_true.1 hsz n (DataW.weights_mem_each htj hdj n hn)
  simpa using this
 obtain ⟨xs, n, _, hd, hcl, hxl, hx⟩ := DataW.trod_struct hu htr
 refine ⟨csA.toList, by simp, by rw [← hn0]; exact hcl, ?_⟩
 have wt : ∀ (i : Nat) f y, fs[i]? = some f → xs[i]? = some y → ∀ n ∈ y.1.weights P f.type, n ≤ reachBytes := by
  intro i f y hf hy n hn
  refine hz n ?_
  have hd1 := congrArg Prod.fst hd
  simp only at hd1
  rw [hd1]
  simp only [DataW.weights, hu]
  exact DataW.weights_mem_each (j := i) (t := f.type) (d := y.1) (by simp [List.getElem?_map]; exact ⟨f, by simpa using hf, rfl⟩) (by simp [List.getElem?_map, hy]) n hn
 have all : ∀ (fl : List Field) (o i : Nat) (ks : List KF), fieldsF P fl o = some ks → (∀ j f, fl[j]? = some f → fs[i + j]? = some f) → KFsAt w ks csA.toList o := by
  intro fl
  induction fl with
  | nil => intro o i ks h _; simp only [fieldsF, Option.some.injEq] at h; subst h; trivial
  | cons fd r ih =>
   intro o i ks h hf
   simp only [fieldsF] at h
   split at h
   ·rename_i k1 k2 h1 h2
    split at h
    ·rename_i hq
     cases h
     obtain ⟨ho, hcw⟩ := hq
     have hfi : fs[i]? = some fd := by simpa using hf 0 fd rfl
     have hxi := hx i fd hfi
     have hlt : i < xs.length := by rw [hxl]; exact (Array.getElem?_eq_some_iff.1 hfi).1
     have h3 : xs[i]? = some xs[i] := List.getElem?_eq_getElem hlt
     rw [h3] at hxi
     have hw := wt i fd _ hfi h3
     rw [ho, hcw] at hxi
     refine ⟨?_, by
      have := ih (o + P.cellsOf fd.type) (i + 1) k2 h2 fun j f hj => by have := hf (j + 1) f (by simpa using hj); rwa [show i + 1 + j = i + (j + 1) by omega]
      rw [hcw] at this; exact this⟩
     unfold fieldF at h1
     split at h1
     ·rename_i ks' hks
      cases h1
      obtain ⟨_, g2⟩ := kinds_of_trod 8 hks hxi hw
      have := KdsAt.shift (p := 0) (by simp [KF.width]) g2
      rw [Nat.add_zero] at this
      exact this
     ·split at h1 <;> try (cases h1; done)
      rename_i e hue
      split at h1 <;> try (cases h1; done)
      rename_i ks' hks
      split at h1 <;> try (cases h1; done)
      rename_i hcond
      cases h1
      obtain ⟨A, len, cap, L, cols, e1, e2⟩ := recs_of_trod hue hks hcond.1 hcond.2 hxi hw
      refine ⟨A, len, cap, L, cols, ?_, e2⟩
      have e3 : ((csA.toList.drop o).take 1)[0]? = some (.slice A len cap) := congrArg (fun l => l[0]?) e1
      rw [List.getElem?_take, if_pos (by decide), List.getElem?_drop, Nat.add_zero] at e3
      exact e3
    ·cases h
   ·cases h
 exact all fs.toList 0 0 ks hk fun j f hj => by rw [Nat.zero_add]; simpa using hj
theorem KFsAt.recs {l : List Kd} {b : Nat} {r : List KF} {cs : List Value} {o : Nat} (h : KFsAt w (.recs l b :: r) cs o) : ∃ A len cap L cols, RecsIn w l b A len cap L cols ∧ cs.drop o = .slice A len cap :: cs.drop (o + 1) ∧ KFsAt w r cs (o + 1) := by
 obtain ⟨⟨A, len, cap, L, cols, h1, h2⟩, h4⟩ := h
 obtain ⟨hl, he⟩ := (List.getElem?_eq_some_iff.1 h1)
 exact ⟨A, len, cap, L, cols, h2, by rw [List.drop_eq_getElem_cons hl, he], h4⟩
theorem KFsAt.rows {q : IntKind} {r : List KF} {cs : List Value} {o : Nat} (h : KFsAt w (.ks [.rows q] :: r) cs o) : ∃ A L C Z, IsRow q w A L C Z ∧ Z.length ≤ reachBytes ∧ cs.drop o = .slice A L C :: cs.drop (o + 1) ∧ KFsAt w r cs (o + 1) := by
 obtain ⟨A, L, C, Z, h1, h2, h3, _⟩ := KdsAt.rows h.1
 exact ⟨A, L, C, Z, h1, h2, h3, h.2⟩
theorem KFsAt.ints {q : IntKind} {r : List KF} {cs : List Value} {o : Nat} (h : KFsAt w (.ks [.ints q] :: r) cs o) : ∃ n, (Lit.int q n).wf = true ∧ cs.drop o = .int q n :: cs.drop (o + 1) ∧ KFsAt w r cs (o + 1) := by
 obtain ⟨n, h1, h2, _⟩ := KdsAt.ints h.1
 exact ⟨n, h1, h2, h.2⟩
theorem KFsAt.bools {r : List KF} {cs : List Value} {o : Nat} (h : KFsAt w (.ks [.bools] :: r) cs o) : ∃ b, cs.drop o = .bool b :: cs.drop (o + 1) ∧ KFsAt w r cs (o + 1) := by
 obtain ⟨b, h1, _⟩ := KdsAt.bools h.1
 exact ⟨b, h1, h.2⟩
theorem KFsAt.arrs {q : IntKind} {m : Nat} {r : List KF} {cs : List Value} {o : Nat} (h : KFsAt w (.ks [.arrs q m] :: r) cs o) (hl : o + m ≤ cs.length) : ∃ l : List Int, l.length = m ∧ (∀ x ∈ l, (Lit.int q x).wf = true) ∧ cs.drop o = l.map (Value.int q) ++ cs.drop (o + m) ∧ KFsAt w r cs (o + m) := by
 obtain ⟨l, h1, h2, h3, _⟩ := KdsAt.arrs h.1 hl
 have e : (KF.ks [.arrs q m]).width = m := by simp [KF.width, Sx.width, Kd.width]
 have := h.2
 rw [e] at this
 exact ⟨l, h1, h2, h3, this⟩
theorem AggArgs.recs {j j' : Nat} {l : List Kd} {b : Nat} {A : Option Addr} {len cap : Nat} {L : Loc} {cols : List Col} {s : List Seg} {cs : List Value} {τ : Mem} (h : RecsIn w l b A len cap L cols) (t : AggArgs w (j + 1) s cs τ j') (hj : j < 1000 := by decide) :
  AggArgs w j (.cells [.vec (200000 + j)] :: s) (.slice A len cap :: cs) ((200000 + j, .rview cols) :: τ) j' := .row L cols hj h.rep h.val t (wf_noHss h.wf)
end
end Go.Sx
