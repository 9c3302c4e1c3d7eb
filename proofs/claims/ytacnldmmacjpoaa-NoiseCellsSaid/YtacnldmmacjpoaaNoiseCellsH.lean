import Derived.Test.YtacnldmmacjpoaaNoiseCellsG
import Derived.Deep.Slices
set_option linter.unusedSimpArgs false
set_option linter.unusedVariables false
namespace Go.Sx
open Go
theorem hcons_at {H os L M : List (List Int)} (h : H = os ++ (L ++ M)) : hcons H (hfrom os.length L) = L := by
 subst h
 have e := hcons_from (os) (L ++ M)
 have f : ∀ (n : Nat) (A B : List (List Int)), hfrom n (A ++ B) = hfrom n A ++ hfrom (n + A.length) B := by
  intro n A B
  induction A generalizing n with
  | nil => rfl
  | cons c r ih =>
   simp only [List.cons_append, hfrom, ih, List.length_cons]
   rw [show n + 1 + r.length = n + (r.length + 1) by omega]
 rw [f] at e
 simp only [hcons, List.map_append] at e ⊢
 have hl : (List.map (hcon (os ++ (L ++ M))) (hfrom os.length L)).length = L.length := by rw [List.length_map, hfrom_len]
 have := congrArg (List.take L.length) e
 rw [List.take_left' hl, List.take_left' rfl] at this
 exact this
theorem llget_at {os L M : List (List Int)} {i : Nat} (hi : i < L.length) : llget (os ++ (L ++ M)) (os.length + i) = llget L i := by
 simp only [llget, List.getD]
 rw [List.getElem?_append_right (by omega), Nat.add_sub_cancel_left, List.getElem?_append_left hi]
end Go.Sx
namespace Go.Nz
open Go Go.Sx Go.Cel Go.Blk
theorem ncE_ok {p : List Int} {c l : Int} (h : ncE p c l = 0) : 0 ≤ c ∧ c ≤ 16 ∧ 0 ≤ l ∧ l ≤ 7 ∧ 18 ≤ p.length := by
 unfold ncE at h
 by_cases q : c < 0 ∨ 16 < c ∨ l < 0 ∨ 7 < l
 ·rw [if_pos q] at h; cases h
 ·rw [if_neg q] at h
  by_cases r : p.length < 18
  ·rw [if_pos r] at h; cases h
  ·omega
theorem ncL_fail {p : List Int} {c l : Int} (h : ncE p c l ≠ 0) : ncL p c l = [] := by unfold ncL; rw [if_neg h]
theorem ncL_ok {p : List Int} {c l : Int} (h : ncE p c l = 0) : ncL p c l = ncF (ncS p c l) l c.toNat := by unfold ncL; rw [if_pos h]
theorem ncF_get (s : List Int) (l : Int) : ∀ {n i : Nat}, i < n → llget (ncF s l n) i = ncO s l i
 | n + 1, i, h => by
  simp only [ncF, llget, List.getD]
  by_cases e : i < n
  ·rw [List.getElem?_append_left (by rw [ncF_len]; exact e)]
   have := ncF_get s l (n := n) e
   simp only [llget, List.getD] at this; exact this
  ·obtain rfl : i = n := by omega
   rw [List.getElem?_append_right (by rw [ncF_len]; omega), ncF_len, Nat.sub_self]; rfl
theorem ncL_len {p : List Int} {c l : Int} (h : ncE p c l = 0) : (ncL p c l).length = c.toNat := by rw [ncL_ok h, ncF_len]
theorem ncL_le (p : List Int) (c l : Int) : (ncL p c l).length ≤ 16 := by
 by_cases h : ncE p c l = 0
 ·rw [ncL_len h]; have := ncE_ok h; omega
 ·rw [ncL_fail h]; simp
theorem fill_len {x : List Int} (h : x.length ≤ 320) : (fillL x).length = 320 := by unfold fillL; simp; omega
theorem fill_bs {x : List Int} (h : Bs x) : Bs (fillL x) := ⟨fun y hy => by
 unfold fillL at hy
 rcases List.mem_append.mp hy with hy | hy
 ·exact h.all y hy
 ·rw [(List.mem_replicate.mp hy).2]; decide⟩
theorem ncS_len {p : List Int} {c l : Int} (h : ncE p c l = 0) : (ncS p c l).length = c.toNat * szN l := by
 obtain ⟨h1, h2, h3, h4, h5⟩ := ncE_ok h
 obtain ⟨C, rfl⟩ := Int.eq_ofNat_of_zero_le h1
 have hz := szN_le h4
 have : C * szN l ≤ 16 * 286 := Nat.mul_le_mul (by omega) hz
 unfold ncS
 rw [show (C : Int) * (szN l : Int) = ((C * szN l : Nat) : Int) by simp, stream_len (by omega)]
 rfl
theorem ncS_bs {p : List Int} {c l : Int} (hb : Bs p) (h : 18 ≤ p.length) : Bs (ncS p c l) := by
 unfold ncS strmI
 split
 ·exact ⟨fun x hx => by simp at hx⟩
 ·exact Go.Proofs.Ytacnldmmacjpoaa.G.mask_bs (ks_bl (key_bl hb h)) zero_bl (Go.Proofs.Ytacnldmmacjpoaa.G.zeros_bs _)
theorem ncO_facts {s : List Int} {l : Int} {C i : Nat} (hs : s.length = C * szN l) (hl : l ≤ 7) (hi : i < C) (hb : Bs s) : (ncO s l i).length = 320 ∧ Bs (ncO s l i) ∧ (l = 0 → lget (ncO s l i) 0 = 0) := by
 have hz := szN_le hl
 have h1 : (i + 1) * szN l ≤ C * szN l := Nat.mul_le_mul_right _ hi
 have h3 : (i + 1) * szN l = i * szN l + szN l := Nat.succ_mul _ _
 have hc : (lsub s (i * szN l) (szN l)).length = szN l := lsub_len _ _ _ (by omega)
 have hcb : Bs (lsub s (i * szN l) (szN l)) := ⟨fun x hx => hb.all x (List.mem_of_mem_drop (List.mem_of_mem_take hx))⟩
 unfold ncO
 by_cases h0 : l ≤ 0
 ·rw [if_pos h0]
  unfold noiseR
  rw [if_pos (by omega)]
  refine ⟨fill_len (by simp; omega), fill_bs ⟨fun x hx => ?_⟩, fun _ => rfl⟩
  rcases List.mem_cons.mp hx with hx | hx
  ·subst hx; decide
  ·exact hcb.all x hx
 ·rw [if_neg h0]
  unfold padR
  rw [if_pos (by omega)]
  exact ⟨fill_len (by omega), fill_bs hcb, fun q => by omega⟩
theorem ncL_cell {p : List Int} {c l : Int} (hb : Bs p) {i : Nat} (hi : i < (ncL p c l).length) : (llget (ncL p c l) i).length = 320 ∧ Bs (llget (ncL p c l) i) ∧ (l = 0 → lget (llget (ncL p c l) i) 0 = 0) := by
 by_cases h : ncE p c l = 0
 ·obtain ⟨h1, h2, h3, h4, h5⟩ := ncE_ok h
  rw [ncL_len h] at hi
  rw [ncL_ok h, ncF_get _ _ hi]
  exact ncO_facts (ncS_len h) h4 hi (ncS_bs hb h5)
 ·rw [ncL_fail h] at hi; simp at hi
theorem ncL_few {p : List Int} {c l : Int} (hb : Bs p) : Few (ncL p c l) := ⟨by have := ncL_le p c l; omega, fun i hi => (ncL_cell hb hi).2.1⟩
end Go.Nz
namespace Go.Proofs.Ytacnldmmacjpoaa.G
open Go Go.Sx Go.Nz Go.Cel Go.Blk
set_option maxRecDepth 20000
set_option maxHeartbeats 1000000
theorem llq_self (a : List (List Int)) : llq a a = true := by simp [llq]
end Go.Proofs.Ytacnldmmacjpoaa.G
namespace Go.Nz
open Go Go.Sx Go.Cel Go.Blk
theorem first_cell : lget (llget (ncL (lzeros 18) 2 1) 0) 0 ≠ 0 := by decide +kernel
end Go.Nz
namespace Go.Proofs.Ytacnldmmacjpoaa.G
open Go Go.Sx Go.Nz Go.Cel Go.Blk
set_option maxRecDepth 20000
set_option maxHeartbeats 1000000
structure Ok (A : Prop) : Prop where
 ok : A
theorem and_ok {A B : Prop} (a : A) (h : Ok B) : A ∧ B := ⟨a, h.ok⟩
theorem pickO_ft {A B : Prop} (h : Ok B) : (false = true → A) ∧ (false = false → B) := ⟨fun q => (by cases q), fun _ => h.ok⟩
theorem pick_ff {A B : Prop} (h : A) : (false = false → A) ∧ (false = true → B) := ⟨fun _ => h, fun q => (by cases q)⟩
theorem pick_tt {A B : Prop} (h : A) : (true = true → A) ∧ (true = false → B) := ⟨fun _ => h, fun q => (by cases q)⟩
theorem bytes_app2 (p q : List Int) : bytesOf (p ++ q) = bytesOf p ++ bytesOf q := by
 apply ByteArray.ext
 simp only [bytesOf, List.map_append, ByteArray.data_append]
 apply Array.toList_inj.1
 simp
theorem hfrom_app2 (n : Nat) (A B : List (List Int)) : hfrom n (A ++ B) = hfrom n A ++ hfrom (n + A.length) B := by
 induction A generalizing n with
 | nil => rfl
 | cons c r ih =>
  simp only [List.cons_append, hfrom, ih, List.length_cons]
  rw [show n + 1 + r.length = n + (r.length + 1) by omega]
theorem apart_from {H os L : List (List Int)} (h : H = os ++ L) (hz : llget H 0 = []) (hl : ∀ i, i < L.length → (llget L i).length ≤ 1000000) : ApartOk2 (hfrom os.length L) H := by
 have g : ∀ k, k < L.length → hget (hfrom os.length L) k = ⟨os.length + k, 0, (llget L k).length⟩ := fun k hk => hfrom_get hk
 have e : ∀ k, k < L.length → llget H (os.length + k) = llget L k := fun k hk => by have := llget_at (os := os) (M := []) hk; rw [h]; simpa using this
 refine ⟨hz, fun k hk => ?_, fun k k' hk hk' hne he => ?_⟩
 ·rw [hfrom_len] at hk
  rw [g k hk]
  have := hl k hk
  exact ⟨by rw [h]; simp; omega, by show 0 + (llget L k).length ≤ _; rw [e k hk]; omega, by show (llget L k).length ≤ _; omega⟩
 ·rw [hfrom_len] at hk hk'
  rw [g k hk, g k' hk'] at he
  have : os.length + k = os.length + k' := he
  omega
theorem noiseCells_plain {p : List Int} {n d k c l : Int} (hp : p.length ≤ 140737488351232) (hpb : Bs p) :
  ∃ f, Has (callsx Try.prog gamN9 [⟨777777, [], true, false⟩] Try.f6 f [.agg [.cells [.vec 200000], .cells [.int .i64 n], .cells [.int .i64 d], .cells [.int .i64 k], .cells [.int .i64 c], .cells [.int .i64 l]]] [(200000, .rview [.ints .u8 p]), (900004, .heap .u8 [[]])] Yes) := by
 have zb : Bs (lzeros 18) := ⟨fun x hx => by rw [lzeros, List.mem_replicate] at hx; exact ⟨by omega, by omega⟩⟩
 have zE : ncE (lzeros 18) 2 1 = 0 := by decide +kernel
 have zL : (ncL (lzeros 18) 2 1).length = 2 := by rw [ncL_len zE]; rfl
 obtain ⟨z1, z2, _⟩ := ncL_cell (c := 2) (l := 1) zb (i := 0) (by rw [zL]; omega)
 have z0 := first_cell
 generalize hNZ : ncL (lzeros 18) 2 1 = NZ at zL z1 z2 z0
 have hget0 : hget (hfrom 1 NZ) 0 = ⟨1, 0, 320⟩ := by rw [hfrom_get (by omega), z1]
 have few := ncL_few (p := p) (c := c) (l := l) hpb
 have cell := fun i (hi : i < (ncL p c l).length) => (ncL_cell hpb hi).1
 have hle := ncL_le p c l
 generalize hP : ncL p c l = P at few cell hle
 have ip : InC p := ⟨by omega, hpb⟩
 have ePP : lsub (lcat (lcat [] p) [1, 2]) 0 (nat (ofNat (llen p))) = p := by
  rw [ofNat_def, llen_def, nat_cast]
  show ((p ++ [1, 2]).drop 0).take p.length = p
  simp
 have hll : llen (lcat (lcat [] p) [1, 2]) = p.length + 2 := by rw [llen_def]; show (p ++ [1, 2]).length = _; simp
 have hsd : seq2 (bytesOf (lcat (lcat [] p) [1, 2])) (sadd (bytesOf p) (ByteArray.mk (Array.mk [1, 2]))) = true := by
  rw [seq2_true, show lcat (lcat [] p) [1, 2] = p ++ [1, 2] from rfl, bytes_app2]; rfl
 have hsl : slen_ (bytesOf p) = p.length := by simp [slen_, bytesOf, ByteArray.size]
 have e1 : llen (lcat [[]] NZ) = 3 := by rw [llen_def]; show ([[]] ++ NZ : List (List Int)).length = 3; simp [zL]
 have llr : ∀ a : List (List Int), bnot (llq a a) = false := fun a => by rw [llq_self]; rfl
 have few24 : ∀ n, n ≤ 40 → Room n 24 := fun n hn => ⟨by omega⟩
 have few6 : ∀ H M, H = ([[]] ++ NZ) ++ (P ++ M) → hcons H (hfrom 3 P) = P := fun H M h => by
  have := hcons_at (os := [[]] ++ NZ) h
  rwa [show ([[]] ++ NZ : List (List Int)).length = 3 by simp [zL]] at this
 obtain ⟨Y, hY⟩ : ∃ Y, Y = lcat (lcat [[]] NZ) P := ⟨_, rfl⟩
 have hYl : Y.length = 3 + P.length := by rw [hY]; show ([[]] ++ NZ ++ P : List (List Int)).length = _; simp [zL]; omega
 have hYl' : llen Y = 3 + P.length := by rw [llen_def, hYl]
 have hX : hcons (lcat (lcat Y P) P) (hfrom (llen Y) P) = P := by
  rw [llen_def]; exact hcons_at (M := P) (by show Y ++ P ++ P = _; simp)
 have hX9 : hcons (lcat (lcat Y P) P) (hfrom (llen (lcat Y P)) P) = P := by
  rw [llen_def]; exact hcons_at (os := Y ++ P) (M := []) (by show Y ++ P ++ P = _; simp)
 have hX7 : hcons (lcat (lcat Y P) P) (hfrom 3 P) = P := few6 _ (P ++ P) (by rw [hY]; show [[]] ++ NZ ++ P ++ P ++ P = _; simp)
 have hls : lcat (lcat [] (hfrom (llen Y) P)) (hfrom (llen (lcat Y P)) P) = hfrom Y.length (P ++ P) := by
  rw [hfrom_app2, llen_def, llen_def, show (lcat Y P).length = Y.length + P.length by show (Y ++ P).length = _; simp]; rfl
 have hYY : lcat (lcat Y P) P = Y ++ (P ++ P) := by show Y ++ P ++ P = _; simp
 have hz : llget (lcat (lcat Y P) P) 0 = [] := by rw [hY]; rfl
 have hPP : ∀ i, i < (P ++ P).length → (llget (P ++ P) i).length ≤ 1000000 := fun i hi => by
  simp only [llget, List.getD]
  rw [List.length_append] at hi
  by_cases q : i < P.length
  ·rw [List.getElem?_append_left q]; have := cell i q; simp only [llget, List.getD] at this; omega
  ·rw [List.getElem?_append_right (by omega)]; have := cell (i - P.length) (by omega); simp only [llget, List.getD] at this; omega
 have hAp : ApartOk2 (hfrom Y.length (P ++ P)) (lcat (lcat Y P) P) := apart_from hYY hz hPP
 have hAi : ApartIn (hfrom Y.length (P ++ P)) := ⟨by rw [hfrom_len, List.length_append]; omega, fun k hk => by
  rw [hfrom_len] at hk; rw [hfrom_get hk]; have := hPP k hk; show (llget (P ++ P) k).length ≤ _; omega⟩
 have hFin : ∀ os', Same (hfrom Y.length (P ++ P)) (lcat (lcat Y P) P) os' → hcons (lcat os' P) (hfrom (llen os') P) = P ∧ hcons (lcat os' P) (hfrom 3 P) = P := fun os' hS => by
  refine ⟨by rw [llen_def]; exact hcons_at (M := []) (by show os' ++ P = _; simp), ?_⟩
  have hl := hS.len
  rw [hYY, List.length_append, hYl] at hl
  refine Eq.trans ?_ hX7
  simp only [hcons]
  refine List.map_congr_left fun d hd => ?_
  obtain ⟨i, hi, rfl⟩ := List.getElem_of_mem hd
  have hi' : i < P.length := by rwa [hfrom_len] at hi
  have hd' : (hfrom 3 P)[i] = ⟨3 + i, 0, (llget P i).length⟩ := by
   have := hfrom_get (n := 3) hi'
   simpa [hget, List.getD, hi] using this
  rw [hd']
  have h1 : llget (lcat os' P) (3 + i) = llget os' (3 + i) := by
   show llget (os' ++ P) _ = _
   simp only [llget, List.getD]; rw [List.getElem?_append_left (by omega)]
  have h2 := hS.same (3 + i) (by rw [hYY, List.length_append, hYl]; omega) fun k hk => by
   rw [hfrom_len] at hk; rw [hfrom_get hk]; show Y.length + k ≠ _; omega
  simp only [hcon]
  rw [h1, h2]
 have k4 : ∀ os' F M, Same (hfrom Y.length (P ++ P)) (lcat (lcat Y P) P) os' → Ok (lcells.k4 Yes os' p c l n d k F (M + 100)) := fun os' F M hS => by
  have h := hFin os' hS
  constructor
  rw [lcells.k4_eq, hP, hNZ, e1, h.1, h.2, llq_self]
  exact Or.inl rfl
 have k11 : ∀ x12 x13 F M, Ok (lcells.k11 Yes p c l x12 n d k x13 (hfrom (llen Y) P) (lcat Y P) F (M + 300)) := fun x12 x13 F M => by
  constructor
  rw [lcells.k11_eq _ _ _ _ _ _ _ _ _ _ _ _ (M + 296), ePP, hP, hNZ, e1, hX, hX7, hls]
  have r1 : Room (nadd 0 (llen (hfrom (llen Y) P))) 24 := few24 _ (by show 0 + (hfrom (llen Y) P).length ≤ 40; rw [hfrom_len]; omega)
  have r2 : Room (nadd (llen (lcat [] (hfrom (llen Y) P))) (llen (hfrom (llen (lcat Y P)) P))) 24 := few24 _ (by show (hfrom (llen Y) P).length + (hfrom (llen (lcat Y P)) P).length ≤ 40; rw [hfrom_len, hfrom_len]; omega)
  rw [llr]
  refine ⟨⟨few, few⟩, ?_⟩
  refine pick_ff ?_
  refine ⟨r1, r2, ⟨hAp, hAi⟩, ?_⟩
  intro os' hS
  have h := hFin os' hS
  have q := k4 os' F (M + 190) hS
  rw [lcells.k8_eq Yes p c l x12 (lcat Y P) (hfrom (llen Y) P) n d k x13 os' F (M + 295), lcells.k7_eq Yes p c l n d k os' F (M + 292), lcells.k6_eq Yes p c l n d k os' F (M + 290), hP, hNZ, e1, h.1, h.2, ieq_self]
  exact ⟨ip, pick_tt (and_ok ⟨few, few⟩ q)⟩
 have loop : ∃ F, ∀ m i (xs : List Int), i + m = p.length + 2 → xs.length = p.length + 2 → Ok (lcells.l0 Yes p c l n d k (hfrom (llen Y) P) (lcat Y P) (F + m) (i : Int) xs) := by
  refine ⟨1, fun m => ?_⟩
  induction m with
  | zero =>
   intro i xs hi hx
   have g : ilt (i : Int) (ofNat (llen (lcat (lcat [] p) [1, 2]))) = false := by rw [ilt_false, ofNat_def, hll]; omega
   have q := k11 (i : Int) xs 0 3696
   constructor
   show lcells.l0 Yes p c l n d k (hfrom (llen Y) P) (lcat Y P) (0 + 1) (i : Int) xs
   rw [lcells.l0_succ Yes p c l n d k (hfrom (llen Y) P) (lcat Y P) 0 (i : Int) xs, lcells.k12_eq Yes p c l (i : Int) n d k xs (hfrom (llen Y) P) (lcat Y P) 0 3991, g]
   exact pickO_ft q
  | succ m ih =>
   intro i xs hi hx
   have a1 : add .i64 (i : Int) 1 = ((i + 1 : Nat) : Int) := add1_i64 (by omega)
   have nx := ih (i + 1) (lset xs i (bxor .u8 (lget xs i) 255)) (by omega) (by simpa [lset] using hx)
   have g : ilt (i : Int) (ofNat (llen (lcat (lcat [] p) [1, 2]))) = true := by rw [ilt_true, ofNat_def, hll]; omega
   have ib : InB (i : Int) (llen xs) := ⟨by omega, by rw [llen_def]; omega⟩
   constructor
   show lcells.l0 Yes p c l n d k (hfrom (llen Y) P) (lcat Y P) ((1 + m) + 1) (i : Int) xs
   rw [lcells.l0_succ Yes p c l n d k (hfrom (llen Y) P) (lcat Y P) (1 + m) (i : Int) xs, lcells.k12_eq Yes p c l (i : Int) n d k xs (hfrom (llen Y) P) (lcat Y P) (1 + m) 3991, lcells.k3_eq Yes p c l (i : Int) n d k xs (hfrom (llen Y) P) (lcat Y P) (1 + m) 3988, lcells.k2_eq Yes p c l (i : Int) xs n d k (hfrom (llen Y) P) (lcat Y P) (1 + m) 3888, a1, nat_cast, g]
   exact pick_tt ⟨ib, and_ok ib nx⟩
 obtain ⟨F, hloop⟩ := loop
 refine ⟨F + (p.length + 2) + 1, ⟨?_⟩⟩
 have q := hloop (p.length + 2) 0 (lcat (lcat [] p) [1, 2]) (by omega) (by rw [← llen_def, hll])
 have k14 : ∀ M, Ok (lcells.k14 Yes p c l (lcat Y P) (hfrom (llen Y) P) n d k (F + (p.length + 2)) (M + 200)) := fun M => by
  constructor
  rw [lcells.k14_eq _ _ _ _ _ _ _ _ _ _ (M + 195), lcells.k13_eq _ _ _ _ _ _ _ _ _ _ (M + 95), hsd, show bnot true = false from rfl]
  exact pickO_ft q
 have k17 : ∀ M, Ok (lcells.k17 Yes p c l n d k (hfrom (llen Y) P) (lcat Y P) (F + (p.length + 2)) (M + 300)) := fun M => by
  have q := k14 (M + 97)
  constructor
  rw [lcells.k17_eq _ _ _ _ _ _ _ _ _ _ (M + 294), ePP, hP, hNZ, e1, hX, hX7, hX9]
  have ff : Fits (nadd (slen_ (bytesOf p)) 2) 9223372036854775807 := ⟨by rw [hsl]; show p.length + 2 ≤ _; omega⟩
  rw [ine_self, llr]
  exact pick_ff (pick_ff ⟨⟨few, few⟩, pick_ff ⟨⟨few, few⟩, pick_ff (and_ok ff q)⟩⟩)
 have n3 : NonNeg (ofNat (llen p)) := ⟨by rw [ofNat_def]; omega⟩
 have n4 : Fits (nat (ofNat (llen p))) (llen (lcat (lcat [] p) [1, 2])) := ⟨by rw [hll, ofNat_def, nat_cast, llen_def]; omega⟩
 have k21 : ∀ M, Ok (lcells.k21 Yes n d k c l p (F + (p.length + 2)) (M + 400)) := fun M => by
  have q := k17 (M + 91)
  constructor
  rw [lcells.k21_eq _ _ _ _ _ _ _ _ (M + 397), lcells.k20_eq _ _ _ _ _ _ _ _ (M + 395), lcells.k19_eq _ _ _ _ _ _ _ _ (M + 393), lcells.k18_eq _ _ _ _ _ _ _ _ (M + 391), ePP, hP, hNZ]
  have r1 : Room (nadd 0 (llen p)) 1 := ⟨by show (5 * (0 + p.length) + 4096) * 1 ≤ _; omega⟩
  have r2 : Room (nadd (llen (lcat [] p)) 2) 1 := ⟨by show (5 * (p.length + 2) + 4096) * 1 ≤ _; omega⟩
  rw [← hY]
  exact ⟨r1, r2, ip, ⟨n3, n4⟩, ip, ⟨n3, n4⟩, and_ok ip q⟩
 have k24 : ∀ M, Ok (lcells.k24 Yes n d k c l p (F + (p.length + 2)) (M + 500)) := fun M => by
  have q := k21 (M + 99)
  rw [lcells.k24_eq _ _ _ _ _ _ _ _ (M + 499)]
  exact q
 have iz : InC (lzeros 18) := ⟨by decide, zb⟩
 have mk : Mk 18 18 1 := ⟨by decide, by decide, by decide, by decide⟩
 have c1 : ine (ofNat (llen (hfrom 1 NZ))) 2 = false := by rw [ine_false, ofNat_def, llen_def, hfrom_len, zL]; rfl
 have c2 : InB 0 (llen (hfrom 1 NZ)) := ⟨by decide, by rw [llen_def, hfrom_len, zL]; decide⟩
 have c3 : ine (ofNat (hl (hget (hfrom 1 NZ) 0))) 320 = false := by rw [hget0]; rfl
 have c4 : InB 0 (Go.Sx.hl (hget (hfrom 1 NZ) 0)) := by rw [hget0]; exact ⟨by decide, by decide⟩
 have c5 : ieq (lget (llget (lcat [[]] NZ) (Go.Sx.hj (hget (hfrom 1 NZ) 0))) (nadd (Go.Sx.ho (hget (hfrom 1 NZ) 0)) 0)) 0 = false := by
  rw [hget0, ieq_false]; exact z0
 have fin := k24 3493
 rw [lcells_vc, lcells.k26_eq Yes n d k c l p _ 3996, lcells.k25_eq Yes n d k c l p _ 3990, hNZ, zE, ine_self, c1, c3, c5]
 exact ⟨mk, iz, pick_ff (pick_ff ⟨c2, pick_ff ⟨c2, c4, pickO_ft fin⟩⟩)⟩
end Go.Proofs.Ytacnldmmacjpoaa.G
namespace Go.Sx
open Go Go.ChangeShapes Go.WideShapes Go.ChangeAt Go.RowKit
def fieldsO (P : Program) (f : TypeId → Option (List Kd)) : List Field → Nat → Option (List Kd)
 | [], o => some []
 | fd :: r, o => match f fd.type, fieldsO P f r (o + P.cellsOf fd.type) with
  | some k1, some k2 => if fd.offset = o ∧ P.cellsOf fd.type = width k1 then some (k1 ++ k2) else none
  | _, _ => none
def kindsO (P : Program) : Nat → TypeId → Option (List Kd)
 | 0, _ => none
 | d + 1, t => match P.underlying t with
  | some (.int k) => if P.cellsOf t = 1 then some [.ints k] else none
  | some .bool => if P.cellsOf t = 1 then some [.bools] else none
  | some (.slice e) => match P.underlying e with
   | some (.int k) => if P.cellsOf e = 1 ∧ P.cellsOf t = 1 ∧ 1 ≤ P.bytesOf e then some [.rows k] else none
   | _ => none
  | some (.array m e) => match P.underlying e with
   | some (.int k) => if P.cellsOf e = 1 ∧ P.cellsOf t = m then some [.arrs k m] else none
   | _ => none
  | some (.struct fs) => match fieldsO P (kindsO P d) fs.toList 0 with
   | some ks => if P.cellsOf t = width ks then some ks else none
   | none => none
  | _ => none
def KdAt (w : World) (k : Kd) (cs : List Value) (o : Nat) : Prop :=
 match k with
 | .ints q => ∃ n, cs[o]? = some (.int q n) ∧ (Lit.int q n).wf = true
 | .bools => ∃ b, cs[o]? = some (.bool b)
 | .arrs q m => ∃ l : List Int, l.length = m ∧ (∀ (j : Nat) x, l[j]? = some x → cs[o + j]? = some (.int q x)) ∧ ∀ x ∈ l, (Lit.int q x).wf = true
 | .rows q => ∃ A L C Z, cs[o]? = some (.slice A L C) ∧ IsRow q w A L C Z ∧ Z.length ≤ reachBytes
 | .strs => ∃ b, cs[o]? = some (.string b)
def KdsAt (w : World) : List Kd → List Value → Nat → Prop
 | [], _, _ => True
 | k :: r, cs, o => KdAt w k cs o ∧ KdsAt w r cs (o + k.width)
theorem KdsAt.append {w : World} {cs : List Value} : ∀ {a b : List Kd} {o : Nat}, KdsAt w a cs o → KdsAt w b cs (o + width a) → KdsAt w (a ++ b) cs o
 | [], b, o, _, h => by simpa [width] using h
 | k :: a, b, o, h, g => ⟨h.1, KdsAt.append h.2 (by simpa [width, Nat.add_assoc] using g)⟩
theorem KdAt.shift {w : World} {cs : List Value} {o z : Nat} {k : Kd} {p : Nat} (hp : p + k.width ≤ z) (h : KdAt w k ((cs.drop o).take z) p) : KdAt w k cs (o + p) := by
 have get : ∀ i, i < z → ((cs.drop o).take z)[i]? = cs[o + i]? := fun i hi => by rw [List.getElem?_take, if_pos hi, List.getElem?_drop]
 cases k with
 | ints q =>
  obtain ⟨n, h1, h2⟩ := h
  exact ⟨n, by rw [← get p (by simp [Kd.width] at hp; omega)]; exact h1, h2⟩
 | bools =>
  obtain ⟨b, h1⟩ := h
  exact ⟨b, by rw [← get p (by simp [Kd.width] at hp; omega)]; exact h1⟩
 | arrs q m =>
  obtain ⟨l, h1, h2, h3⟩ := h
  refine ⟨l, h1, fun j x hj => ?_, h3⟩
  have : j < m := by rw [← h1]; exact (List.getElem?_eq_some_iff.1 hj).1
  rw [Nat.add_assoc, ← get (p + j) (by simp [Kd.width] at hp; omega)]
  exact h2 j x hj
 | strs =>
  obtain ⟨b, h1⟩ := h
  exact ⟨b, by rw [← get p (by simp [Kd.width] at hp; omega)]; exact h1⟩
 | rows q =>
  obtain ⟨A, L, C, Z, h1, h2⟩ := h
  exact ⟨A, L, C, Z, by rw [← get p (by simp [Kd.width] at hp; omega)]; exact h1, h2⟩
theorem KdsAt.shift {w : World} {cs : List Value} {o z : Nat} : ∀ {ks : List Kd} {p : Nat}, p + width ks ≤ z → KdsAt w ks ((cs.drop o).take z) p → KdsAt w ks cs (o + p)
 | [], _, _, _ => trivial
 | k :: r, p, hp, h => ⟨h.1.shift (by simp [width] at hp; omega), by have := KdsAt.shift (ks := r) (p := p + k.width) (by simp [width] at hp; omega) h.2; rwa [← Nat.add_assoc] at this⟩
section
variable {H : Type} {enc : TypeId × Value → H} {P : Program} {w : World} {base : Nat} {held : Bool}
theorem row_of_trod {t e : TypeId} {k : IntKind} {fuel : Nat} {cs : List Value} {x : DataW H × List MemPlace} (ht : P.underlying t = some (.slice e)) (he : P.underlying e = some (.int k)) (hc : P.cellsOf e = 1) (hb : 1 ≤ P.bytesOf e)
  (h : DataW.trod enc P w base (fun _ => true) held fuel t cs = some x) (hz : ∀ n ∈ x.1.weights P t, n ≤ reachBytes) : ∃ A L C Z, cs = [.slice A L C] ∧ IsRow k w A L C Z ∧ Z.length ≤ reachBytes := by
 rcases open_ints ht he hc h with ⟨rfl, rfl⟩ | ⟨a, len, cap, zs, rfl, _, hl, hm, hlen, rfl, hcell, hw⟩
 ·exact ⟨none, 0, 0, [], rfl, .inl ⟨rfl, rfl, rfl, rfl⟩, Nat.zero_le _⟩
 ·refine ⟨some a, len, cap, zs, rfl, .inr ⟨a, rfl, hl, hm, by simpa using hlen, hcell, hw⟩, ?_⟩
  have := hz (((lits (H := H) k (zs.take len)).length + (lits (H := H) k (zs.drop len)).length) * P.bytesOf e) (by simp [DataW.weights, ht])
  simp only [lits, List.length_map, List.length_take, List.length_drop] at this
  have e1 : min len zs.length + (zs.length - len) = zs.length := by omega
  rw [e1] at this
  exact Nat.le_trans (Nat.le_mul_of_pos_right _ hb) this
theorem kinds_of_trod : ∀ (d : Nat) {t : TypeId} {ks : List Kd} {fuel : Nat} {cs : List Value} {x : DataW H × List MemPlace}, kindsO P d t = some ks → DataW.trod enc P w base (fun _ => true) held fuel t cs = some x → (∀ n ∈ x.1.weights P t, n ≤ reachBytes) →
  cs.length = width ks ∧ KdsAt w ks cs 0
 | 0, _, _, _, _, _, h, _, _ => by simp [kindsO] at h
 | d + 1, t, ks, fuel, cs, x, h, htr, hz => by
  unfold kindsO at h
  split at h
  ·rename_i k hu
   split at h
   ·cases h
    obtain ⟨n, rfl, rfl, hw⟩ := DataW.trod_int hu htr
    exact ⟨rfl, ⟨n, rfl, hw⟩, trivial⟩
   ·cases h
  ·rename_i hu
   split at h
   ·cases h
    obtain ⟨b, rfl, rfl⟩ := DataW.trod_bool hu htr
    exact ⟨rfl, ⟨b, rfl⟩, trivial⟩
   ·cases h
  ·rename_i e hu
   split at h
   ·rename_i k he
    split at h
    ·rename_i hc
     cases h
     obtain ⟨A, L, C, Z, rfl, hr, hl⟩ := row_of_trod hu he hc.1 hc.2.2 htr hz
     exact ⟨rfl, ⟨A, L, C, Z, rfl, hr, hl⟩, trivial⟩
    ·cases h
   ·cases h
  ·rename_i m e hu
   split at h
   ·rename_i k he
    split at h
    ·rename_i hc
     cases h
     obtain ⟨xs, n, _, _, hcl, hxl, hx⟩ := DataW.trod_array hu htr
     rw [hc.2] at hcl
     have each : ∀ i, i < m → ∃ n, cs[i]? = some (.int k n) ∧ (Lit.int k n).wf = true := by
      intro i hi
      have h1 := hx i hi
      rw [hc.1, Nat.mul_one] at h1
      have h2 : xs[i]? = some (xs[i]'(by omega)) := List.getElem?_eq_getElem (by omega)
      rw [h2] at h1
      obtain ⟨n, e1, _, hw⟩ := DataW.trod_int he h1
      have hlt : i < cs.length := by omega
      rw [List.drop_eq_getElem_cons hlt] at e1
      simp only [List.take_succ_cons, List.take_zero, List.cons.injEq, and_true] at e1
      exact ⟨n, by rw [List.getElem?_eq_getElem hlt, e1], hw⟩
     refine ⟨by simp [width, Kd.width, hcl], ⟨cs.map fun v => match v with | .int _ n => n | _ => 0, by simp [hcl], fun j y hj => ?_, fun y hy => ?_⟩, trivial⟩
     ·simp only [List.getElem?_map, Option.map_eq_some_iff] at hj
      obtain ⟨v, hv, rfl⟩ := hj
      have hlt : j < cs.length := (List.getElem?_eq_some_iff.1 hv).1
      obtain ⟨n, e1, _⟩ := each j (by omega)
      rw [e1] at hv; cases hv
      rw [Nat.zero_add, e1]
     ·obtain ⟨v, hv, rfl⟩ := List.mem_map.1 hy
      obtain ⟨j, hj⟩ := List.getElem?_of_mem hv
      have hlt : j < cs.length := (List.getElem?_eq_some_iff.1 hj).1
      obtain ⟨n, e1, hw⟩ := each j (by omega)
      rw [e1] at hj; cases hj
      exact hw
    ·cases h
   ·cases h
  ·rename_i fs hu
   split at h
   ·rename_i ks' hks
    split at h
    ·rename_i hc
     cases h
     obtain ⟨xs, n, _, rfl, hcl, hxl, hx⟩ := DataW.trod_struct hu htr
     refine ⟨by rw [hcl, hc], ?_⟩
     have wt : ∀ (i : Nat) f y, fs[i]? = some f → xs[i]? = some y → ∀ n ∈ y.1.weights P f.type, n ≤ reachBytes := by
      intro i f y hf hy n hn
      refine hz n ?_
      simp only [DataW.weights, hu]
      exact DataW.weights_mem_each (j := i) (t := f.type) (d := y.1) (by simp [List.getElem?_map]; exact ⟨f, by simpa using hf, rfl⟩) (by simp [List.getElem?_map, hy]) n hn
     have all : ∀ (fl : List Field) (o i : Nat) (ks : List Kd), fieldsO P (kindsO P d) fl o = some ks → (∀ j f, fl[j]? = some f → fs[i + j]? = some f) → KdsAt w ks cs o := by
      intro fl
      induction fl with
      | nil => intro o i ks h _; simp only [fieldsO, Option.some.injEq] at h; subst h; trivial
      | cons fd r ih =>
       intro o i ks h hf
       simp only [fieldsO] at h
       split at h
       ·rename_i k1 k2 h1 h2
        split at h
        ·rename_i hq
         cases h
         obtain ⟨ho, hcw⟩ := hq
         have hfi : fs[i]? = some fd := by simpa using hf 0 fd rfl
         have hxi := hx i fd hfi
         have hlt : i < xs.length := by rw [hxl]; exact (Array.getElem?_eq_some_iff.1 hfi).1
         have h3 : xs[i]? = some xs[i] := List.getElem?_eq_getElem hlt
         rw [h3] at hxi
         obtain ⟨_, g2⟩ := kinds_of_trod d h1 hxi (wt i fd _ hfi h3)
         rw [ho, hcw] at g2
         refine KdsAt.append (by have := KdsAt.shift (p := 0) (by omega) g2; simpa using this) ?_
         rw [← hcw]
         exact ih (o + P.cellsOf fd.type) (i + 1) k2 h2 fun j f hj => by have := hf (j + 1) f (by simpa using hj); rwa [show i + 1 + j = i + (j + 1) by omega]
        ·cases h
       ·cases h
     exact all fs.toList 0 0 ks hks fun j f hj => by rw [Nat.zero_add]; simpa using hj
    ·cases h
   ·cases h
  ·cases h
end
def Col.wf : Col → Prop
 | .ints k l => ∀ x ∈ l, (Lit.int k x).wf = true
 | .bools _ => True
 | .arrs k _ ll => ∀ l ∈ ll, ∀ x ∈ l, (Lit.int k x).wf = true
 | .rows k ll => ∀ l ∈ ll, l.length ≤ reachBytes ∧ ∀ x ∈ l, (Lit.int k x).wf = true
 | .strs _ => True
 | .hss _ _ => False
theorem wf_noHss {cs : List Col} (h : ∀ col ∈ cs, col.wf) : noHss cs = true := by
 simp only [noHss, List.all_eq_true, Bool.not_eq_true']
 intro c hc
 have := h c hc
 cases c <;> first | rfl | exact this.elim
section
variable {H : Type} {enc : TypeId × Value → H} {P : Program} {w : World}
theorem LawArgs.recs {j : Nat} {A : Option Addr} {len cap : Nat} {L : Loc} {cs : List Col} {xs : List AV} {vs : List Value} {τ : Mem} (hV : VRep w L cs) (hv : Value.slice A len cap = .slice L.a L.len L.cap) (t : LawArgs w (j + 1) xs vs τ) (hj : j < 1000 := by decide) (hn : noHss cs = true := by first | rfl | exact wf_noHss (by assumption)) :
  LawArgs w j (.one (.vec (200000 + j)) :: xs) (.slice A len cap :: vs) ((200000 + j, .rview cs) :: τ) := .row L cs hj hV hv t hn
theorem KdsAt.rows {q : IntKind} {r : List Kd} {cs : List Value} {o : Nat} (h : KdsAt w (.rows q :: r) cs o) : ∃ A L C Z, IsRow q w A L C Z ∧ Z.length ≤ reachBytes ∧ cs.drop o = .slice A L C :: cs.drop (o + 1) ∧ KdsAt w r cs (o + 1) := by
 obtain ⟨⟨A, L, C, Z, h1, h2, h3⟩, h4⟩ := h
 have hlt := (List.getElem?_eq_some_iff.1 h1)
 obtain ⟨hl, he⟩ := hlt
 exact ⟨A, L, C, Z, h2, h3, by rw [List.drop_eq_getElem_cons hl, he], h4⟩
theorem KdsAt.ints {q : IntKind} {r : List Kd} {cs : List Value} {o : Nat} (h : KdsAt w (.ints q :: r) cs o) : ∃ n, (Lit.int q n).wf = true ∧ cs.drop o = .int q n :: cs.drop (o + 1) ∧ KdsAt w r cs (o + 1) := by
 obtain ⟨⟨n, h1, h2⟩, h4⟩ := h
 obtain ⟨hl, he⟩ := (List.getElem?_eq_some_iff.1 h1)
 exact ⟨n, h2, by rw [List.drop_eq_getElem_cons hl, he], h4⟩
theorem KdsAt.bools {r : List Kd} {cs : List Value} {o : Nat} (h : KdsAt w (.bools :: r) cs o) : ∃ b, cs.drop o = .bool b :: cs.drop (o + 1) ∧ KdsAt w r cs (o + 1) := by
 obtain ⟨⟨b, h1⟩, h4⟩ := h
 obtain ⟨hl, he⟩ := (List.getElem?_eq_some_iff.1 h1)
 exact ⟨b, by rw [List.drop_eq_getElem_cons hl, he], h4⟩
theorem KdsAt.arrs {q : IntKind} {m : Nat} {r : List Kd} {cs : List Value} {o : Nat} (h : KdsAt w (.arrs q m :: r) cs o) (hl : o + m ≤ cs.length) : ∃ l : List Int, l.length = m ∧ (∀ x ∈ l, (Lit.int q x).wf = true) ∧ cs.drop o = l.map (Value.int q) ++ cs.drop (o + m) ∧ KdsAt w r cs (o + m) := by
 obtain ⟨⟨l, h1, h2, h3⟩, h4⟩ := h
 refine ⟨l, h1, h3, ?_, h4⟩
 conv => lhs; rw [← List.take_append_drop m (cs.drop o), List.drop_drop]
 congr 1
 refine List.ext_getElem? fun j => ?_
 rw [List.getElem?_take]
 by_cases hj : j < m
 ·rw [if_pos hj, List.getElem?_drop]
  have : l[j]? = some (l[j]'(by omega)) := List.getElem?_eq_getElem (by omega)
  rw [h2 j _ this]
  simp [this]
 ·rw [if_neg hj, List.getElem?_eq_none (by simp; omega)]
theorem open_struct {t : TypeId} {fs : Array Field} {ks : List Kd} {v : Value} {d : DataW H} {ps : List MemPlace} {r : Reach} {b0 : Nat} (ht : P.underlying t = some (.struct fs)) (hk : kindsO P 8 t = some ks) (hv : Value.okWide P w r b0 t v)
  (h : DataW.Trod enc P w 0 (fun _ => true) true t v d ps) {ts : List TypeId} {ds : List (DataW H)} (hsz : (DataW.weightsEach P ts ds).all (· ≤ reachBytes) = true) {j : Nat} (htj : ts[j]? = some t) (hdj : ds[j]? = some d) :
  ∃ cs : List Value, v = .agg cs.toArray ∧ cs.length = width ks ∧ KdsAt w ks cs 0 := by
 obtain ⟨cs, rfl, _⟩ := okWide_struct ht hv
 obtain ⟨fuel, hf⟩ := h
 have hall : ∀ n ∈ d.weights P t, n ≤ reachBytes := fun n hn => by
  have := List.all_eq_true.1 hsz n (DataW.weights_mem_each htj hdj n hn)
  simpa using this
 obtain ⟨h1, h2⟩ := kinds_of_trod 8 hk hf hall
 exact ⟨cs.toList, by simp, h1, h2⟩
end
inductive KF where
 | ks (l : List Kd)
 | recs (l : List Kd) (bytes : Nat)
def KF.width : KF → Nat
 | .ks l => Sx.width l
 | .recs _ _ => 1
structure RecsIn (w : World) (l : List Kd) (bytes : Nat) (A : Option Addr) (len cap : Nat) (L : Loc) (cols : List Col) : Prop where
 rep : VRep w L cols
 val : Value.slice A len cap = .slice L.a L.len L.cap
 kds : kdsOf cols = l
 wf : ∀ col ∈ cols, col.wf
 size : L.len * bytes ≤ reachBytes
def KF.at (w : World) (k : KF) (cs : List Value) (o : Nat) : Prop :=
 match k with
 | .ks l => KdsAt w l cs o
 | .recs l b => ∃ A len cap L cols, cs[o]? = some (.slice A len cap) ∧ RecsIn w l b A len cap L cols
def KFsAt (w : World) : List KF → List Value → Nat → Prop
 | [], _, _ => True
 | k :: r, cs, o => k.at w cs o ∧ KFsAt w r cs (o + k.width)
section
variable {H : Type} {enc : TypeId × Value → H} {P : Program} {w : World}
theorem KFsAt.recs {l : List Kd} {b : Nat} {r : List KF} {cs : List Value} {o : Nat} (h : KFsAt w (.recs l b :: r) cs o) : ∃ A len cap L cols, RecsIn w l b A len cap L cols ∧ cs.drop o = .slice A len cap :: cs.drop (o + 1) ∧ KFsAt w r cs (o + 1) := by
 obtain ⟨⟨A, len, cap, L, cols, h1, h2⟩, h4⟩ := h
 obtain ⟨hl, he⟩ := (List.getElem?_eq_some_iff.1 h1)
 exact ⟨A, len, cap, L, cols, h2, by rw [List.drop_eq_getElem_cons hl, he], h4⟩
theorem KFsAt.rows {q : IntKind} {r : List KF} {cs : List Value} {o : Nat} (h : KFsAt w (.ks [.rows q] :: r) cs o) : ∃ A L C Z, IsRow q w A L C Z ∧ Z.length ≤ reachBytes ∧ cs.drop o = .slice A L C :: cs.drop (o + 1) ∧ KFsAt w r cs (o + 1) := by
 obtain ⟨A, L, C, Z, h1, h2, h3, _⟩ := KdsAt.rows h.1
 exact ⟨A, L, C, Z, h1, h2, h3, h.2⟩
theorem KFsAt.ints {q : IntKind} {r : List KF} {cs : List Value} {o : Nat} (h : KFsAt w (.ks [.ints q] :: r) cs o) : ∃ n, (Lit.int q n).wf = true ∧ cs.drop o = .int q n :: cs.drop (o + 1) ∧ KFsAt w r cs (o + 1) := by
 obtain ⟨n, h1, h2, _⟩ := KdsAt.ints h.1
 exact ⟨n, h1, h2, h.2⟩
theorem KFsAt.bools {r : List KF} {cs : List Value} {o : Nat} (h : KFsAt w (.ks [.bools] :: r) cs o) : ∃ b, cs.drop o = .bool b :: cs.drop (o + 1) ∧ KFsAt w r cs (o + 1) := by
 obtain ⟨b, h1, _⟩ := KdsAt.bools h.1
 exact ⟨b, h1, h.2⟩
theorem KFsAt.arrs {q : IntKind} {m : Nat} {r : List KF} {cs : List Value} {o : Nat} (h : KFsAt w (.ks [.arrs q m] :: r) cs o) (hl : o + m ≤ cs.length) : ∃ l : List Int, l.length = m ∧ (∀ x ∈ l, (Lit.int q x).wf = true) ∧ cs.drop o = l.map (Value.int q) ++ cs.drop (o + m) ∧ KFsAt w r cs (o + m) := by
 obtain ⟨l, h1, h2, h3, _⟩ := KdsAt.arrs h.1 hl
 have e : (KF.ks [.arrs q m]).width = m := by simp [KF.width, Sx.width, Kd.width]
 have := h.2
 rw [e] at this
 exact ⟨l, h1, h2, h3, this⟩
theorem AggArgs.recs {j j' : Nat} {l : List Kd} {b : Nat} {A : Option Addr} {len cap : Nat} {L : Loc} {cols : List Col} {s : List Seg} {cs : List Value} {τ : Mem} (h : RecsIn w l b A len cap L cols) (t : AggArgs w (j + 1) s cs τ j') (hj : j < 1000 := by decide) :
  AggArgs w j (.cells [.vec (200000 + j)] :: s) (.slice A len cap :: cs) ((200000 + j, .rview cols) :: τ) j' := .row L cols hj h.rep h.val t (wf_noHss h.wf)
end
end Go.Sx
