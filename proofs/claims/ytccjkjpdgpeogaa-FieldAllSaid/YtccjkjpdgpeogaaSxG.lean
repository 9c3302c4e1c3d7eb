/- Texts and bytes; copy. -/
import Derived.Test.YtccjkjpdgpeogaaSxF
namespace Go.Sx
open Go
set_option linter.unusedSimpArgs false
set_option linter.unusedVariables false
section
variable {P : Program} {E : Env} {ρ : Rho} {fr : Fr} {σ : Mem} {a : Act} {w : World}

theorem bytesT_sound {t : TypeId} (h : bytesT P t = true) : ∃ e, P.underlying t = some (.slice e) ∧ P.underlying e = some (.int .u8) ∧ sizeB P e = some 1 := by
  unfold bytesT at h
  split at h <;> try (cases h; done)
  rename_i e hu
  split at h <;> try (cases h; done)
  rename_i he
  split at h <;> try (cases h; done)
  rename_i hs
  exact ⟨e, hu, he, hs⟩

theorem strT_sound {t : TypeId} (h : strT P t = true) : P.underlying t = some .string := by
  unfold strT at h
  split at h
  · rename_i hu; exact hu
  · cases h

theorem bytesRow_size (s : ByteArray) (cap : Nat) (h : s.size ≤ cap) : (bytesRow s cap).size = cap := by
  have : (s.data.map fun b => Value.int .u8 (b.toNat : Int)).size = s.size := by rw [Array.size_map]; rfl
  simp only [bytesRow, Array.size_append, this, Array.size_replicate]; omega

theorem text_bytes {s d e : TypeId} {b : ByteArray} {dn : Nat} (h : Rep E ρ fr σ a w) (hs : P.underlying s = some .string) (hd : P.underlying d = some (.slice e)) (he : P.underlying e = some (.int .u8)) (hfr : freshB dn fr σ = true) :
    ∃ v w' L, (convert s d (.string b)).run P w = .ok v w' ∧ v = .slice L.a L.len L.cap ∧ w.heap.size ≤ w'.heap.size ∧ Keeps (fun _ => False) w w' ∧ Rep E (upd ρ dn L) fr (Mem.ins dn (.vec [.ints .u8 (bytesIn b)]) σ) a w' := by
  have hrun := run_bytes_of_string (P := P) w s d e b hs hd he
  generalize hG : grownCap w b.size 0 e = G at hrun
  have hGle : b.size ≤ G := by
    rw [← hG]; unfold grownCap Question.cut; simp
  have hC := bytesRow_size b G hGle
  let L : Loc := ⟨w.heap.size, 0, some ⟨w.heap.size, 0, none⟩, b.size, G, fun _ _ => ⟨none, 0, 0⟩⟩
  have new : (w.drew.alloc (.cells (bytesRow b G) e ((bytesRow b G).size, (bytesRow b G).size + 1))).heap[w.heap.size]? = some (.cells (bytesRow b G) e ((bytesRow b G).size, (bytesRow b G).size + 1)) := by
    show (w.heap.push _)[w.heap.size]? = _
    simp
  have hl : (bytesIn b).length = b.size := by show _ = b.data.size; simp [bytesIn]
  refine ⟨_, _, L, hrun, rfl, by show _ ≤ (w.heap.push _).size; simp, ⟨rfl, rfl, rfl, by show _ ≤ (w.heap.push _).size; simp, fun k hk _ => with_old (o := .cells _ e _) hk⟩, newvec (L := L) h hfr (C := bytesRow b G) (T := e) (fz := ((bytesRow b G).size, (bytesRow b G).size + 1)) rfl rfl rfl rfl (.ofInts hl hGle (fun _ => rfl) (fun j x hx => ?_)) rfl rfl rfl (by show G * 1 ≤ _; omega) (fun j hj => by simp; omega) (fun k hk => absurd hk not_inner_ints)⟩
  simp only [World.cell?, Loc.at, L, new, Option.isSome_none, Bool.false_eq_true, if_false, Nat.zero_add]
  have hj := (List.getElem?_eq_some_iff.1 hx).1
  have hj' : j < b.data.size := by have : b.size = b.data.size := rfl
                                   omega
  simp only [bytesIn, List.getElem?_map, Array.getElem?_toList, Array.getElem?_eq_getElem hj', Option.map_some, Option.some.injEq] at hx
  subst hx
  have hjs : j < b.size := by have : b.size = b.data.size := rfl
                              omega
  simp [bytesRow, Array.getElem?_append, hjs, hj']

theorem bytes_text {s d e : TypeId} {l : List Int} {v : Value} {L : Loc} (hr : Reads ρ σ w v [.ints .u8 l] L) (hs : P.underlying s = some (.slice e)) (he : P.underlying e = some (.int .u8)) (hd : P.underlying d = some .string) :
    (convert s d v).run P w = .ok (.string (bytesOf l)) w := by
  have hl : l.length = L.len := hr.rep.ok (.ints .u8 l) (by simp)
  rw [hr.val, run_convert_bytes_string w s d e _ _ _ hs he hd]
  cases ha : L.a with
  | none =>
    have hl0 : L.len = 0 := by
      by_cases q : L.len = 0
      · exact q
      · have := hr.rep.adr q; rw [ha] at this; cases this
    have : l = [] := by cases l <;> simp_all
    subst this
    simp [Conv.bytesToString, bytesOf, ByteArray.empty, ByteArray.emptyWithCapacity]
    rfl
  | some x =>
    have hload : (loadCells x L.len).run P w = .ok (l.map (Value.int .u8)).toArray w := by
      have := run_loadCells_list (P := P) w x (l.map (Value.int .u8)) (fun j u hj => by
        simp only [List.getElem?_map, Option.map_eq_some_iff] at hj
        obtain ⟨y, hy, rfl⟩ := hj
        have hlt := (List.getElem?_eq_some_iff.1 hy).1
        have had := hr.rep.adr (by omega)
        rw [ha] at had
        cases had
        rw [Loc.at_add, Nat.zero_add]
        have := hr.rep.cells j (by omega) 0 (by show 0 < 1; omega)
        have e1 : cwidth [Col.ints .u8 l] = 1 := rfl
        rw [e1, Nat.mul_one, Nat.add_zero] at this
        rw [this]
        simp [rowVal, Col.kd, Kd.width, colVal, lget, List.getD, hy])
      rw [List.length_map, hl] at this
      exact this
    rw [run_bytesToString w x L.len L.cap l hload, foldl_push_bytes]
    simp [bytesOf, ByteArray.empty, ByteArray.emptyWithCapacity]
    rfl

/-! ### the bytes of a constant string: the row is marked, and from then on only read -/
theorem mark_sound {s e : TypeId} {n : Nat} {l : List Int} (hR : Rep E ρ fr σ a w) (hn : Mem.find σ n = some (.vec [.ints .u8 l])) (hl : 0 < l.length) (hs : P.underlying s = some (.slice e)) (he : P.underlying e = some (.int .u8)) :
    ∃ w', (convert s s (.slice (ρ n).a (ρ n).len (ρ n).cap)).run P w = .ok (.slice (ρ n).a (ρ n).len (ρ n).cap) w' ∧ w'.heap.size = w.heap.size ∧ Rep E ρ fr (σ.put n (.rview [.ints .u8 l])) a w' := by
  obtain ⟨hV, hW⟩ := hR.mem n _ hn
  have hlen : l.length = (ρ n).len := hV.ok (.ints .u8 l) (by simp)
  have hcap := hV.cap
  have hc0 : (ρ n).cap ≠ 0 := by omega
  obtain ⟨ha, c, T, fz, hh, hfit, hfz⟩ := hW hc0
  have hsh : w.shape? (ρ n).1 = some (T, c.size) := by simp [World.shape?, hh]
  refine ⟨w.freeze ⟨(ρ n).1, c.size, none⟩ 1, ?_, ?_, ?_⟩
  · rw [ha]
    simp [convert, run_underlying hs, run_underlying he, markStringish, Loc.at, hsh]
  · simp [World.freeze]
  have hother : ∀ k, k ≠ (ρ n).1 → (w.freeze ⟨(ρ n).1, c.size, none⟩ 1).heap[k]? = w.heap[k]? := fun k hk => by
    simp only [World.freeze, if_neg (show ¬ (1 : Nat) = 0 by decide), Array.getElem?_modify, if_neg (Ne.symm hk)]
  have hcell : ∀ A : Addr, (w.freeze ⟨(ρ n).1, c.size, none⟩ 1).cell? A = w.cell? A := fun A => by
    by_cases hA : A.block = (ρ n).1
    · simp only [World.cell?, World.freeze, if_neg (show ¬ (1 : Nat) = 0 by decide), Array.getElem?_modify, hA, if_pos, hh, Option.map_some]
    · simp only [World.cell?, hother _ hA]
  refine change_sound hR hn (g := (ρ n).1) ⟨hc0, rfl⟩ hother (by simp [World.freeze]) (by simp [World.freeze]) (by simp [World.freeze]) (by simp [World.freeze]) ?_ (fun k hk => hk.elim) (fun k hk => ?_) (fun k hk => hk)
  · exact ⟨hV.ne, hV.wid, hV.ok, hV.cap, hV.adr, fun i hi t ht => by rw [hcell]; exact hV.cells i hi t ht, fun c' k ll hcc => by cases c' <;> simp at hcc⟩
  · rcases hk with ⟨_, rfl⟩ | hk
    · exact Or.inl ⟨hc0, rfl⟩
    · exact Or.inr hk

/-! ### copy -/
theorem lput_get (l v : List Int) (i j : Nat) (hi : i + v.length ≤ l.length) : (lput l i v)[j]? = if i ≤ j ∧ j < i + v.length then v[j - i]? else l[j]? := by
  simp only [lput]
  by_cases h1 : j < i
  · rw [if_neg (by omega), List.append_assoc, List.getElem?_append_left (by simp; omega), List.getElem?_take, if_pos h1]
  · by_cases h2 : j < i + v.length
    · rw [if_pos (by omega), List.append_assoc, List.getElem?_append_right (by simp; omega), List.getElem?_append_left (by simp; omega)]
      congr 1; simp; omega
    · rw [if_neg (by omega), List.getElem?_append_right (by simp; omega), List.getElem?_drop]
      congr 1; simp; omega

theorem lput_len (l v : List Int) (i : Nat) (hi : i + v.length ≤ l.length) : (lput l i v).length = l.length := by simp [lput]; omega

theorem ints_cells {L : Loc} {k : IntKind} {l : List Int} (hl : l.length = L.len) : rowCells L [.ints k l] = l.map (Value.int k) := by
  have e : cwidth [Col.ints k l] = 1 := rfl
  apply List.ext_getElem?
  intro j
  simp only [rowCells, e, Nat.mul_one, List.getElem?_map]
  by_cases hj : j < L.len
  · simp [hj, show j < l.length by omega, rowVal, Col.kd, Kd.width, colVal, lget, List.getD, Nat.mod_one]
  · rw [List.getElem?_eq_none (by simpa using hj), List.getElem?_eq_none (by omega)]; rfl

/-- the model's copy, when its writes are known -/
theorem run_copy {tx ty ot e : TypeId} {k : IntKind} {src : List Int} {Ly : Loc} {vy : Value} {A : Option Addr} {dlen dcap : Nat} {w' : World} (hu : P.underlying tx = some (.slice e)) (hs : sizeB P e = some 1) (hy : Gives P ρ σ w ty vy [.ints k src] Ly)
    (hst : ∀ x, A = some x → (storeCells x ((lsub src 0 (nmin (llen src) dlen)).map (Value.int k))).run P w = .ok () w') (hn : A = none → w' = w) :
    (Builtin.copy_ #[tx, ty] ot #[.slice A dlen dcap, vy]).run P w = .ok (.int .i64 (ofNat (nmin (llen src) dlen))) w' := by
  have hl : src.length = Ly.len := hy.ok (.ints k src) (by simp)
  have hsi : ∃ i, P.info? e = some i ∧ i.size = 1 := by
    unfold sizeB at hs
    cases hi : P.info? e with
    | none => rw [hi] at hs; cases hs
    | some i => rw [hi] at hs; exact ⟨i, rfl, by simpa using hs⟩
  obtain ⟨i, hi, hi1⟩ := hsi
  have hlen := hy.src.len
  have hmin : Nat.min Ly.len dlen = nmin (llen src) dlen := by simp only [nmin, llen, hl]
  have hfirst := hy.firstN (nmin (llen src) dlen) (by rw [← hmin]; exact Nat.min_le_left _ _)
  have e1 : cwidth [Col.ints k src] = 1 := rfl
  rw [e1, Nat.mul_one, ints_cells hl] at hfirst
  have htake : (src.map (Value.int k)).take (nmin (llen src) dlen) = (lsub src 0 (nmin (llen src) dlen)).map (Value.int k) := by simp [lsub, List.map_take]
  rw [htake] at hfirst
  cases A with
  | none =>
    have := hn rfl
    subst this
    simp [Builtin.copy_, run_underlying hu, sizeOf, typeInfo, hi, hi1, hlen, hmin, hfirst, goInt, ofNat]
  | some x =>
    simp [Builtin.copy_, run_underlying hu, sizeOf, typeInfo, hi, hi1, hlen, hmin, hfirst, goInt, ofNat, hst x rfl]

theorem kinds_size {e : TypeId} {k : IntKind} {bytes : Nat} (h : elemKinds P e = some ([.ints k], bytes)) : sizeB P e = some 1 := by
  obtain ⟨i, z, hi, _, _, hsize, _⟩ := elemKinds_sound h
  simp [sizeB, hi, hsize, width, Kd.width]

/-- copying into a list of the walk's own -/
theorem copy_vec {n i len : Nat} {k : IntKind} {l src : List Int} {A : Option Addr} (hR : Rep E ρ fr σ a w) (hn : Mem.find σ n = some (.vec [.ints k l])) (hi : i + len ≤ (ρ n).len) (hA : len ≠ 0 → A = some (at_ ρ n i)) :
    ∃ w', (∀ x, A = some x → (storeCells x ((lsub src 0 (nmin (llen src) len)).map (Value.int k))).run P w = .ok () w') ∧ w'.heap.size = w.heap.size ∧ (A = none → w' = w) ∧ Rep E ρ fr (σ.put n (.vec [.ints k (lput l i (lsub src 0 (nmin (llen src) len)))])) a w' := by
  have hV := (hR.mem n _ hn).1
  have hl : l.length = (ρ n).len := hV.ok (.ints k l) (by simp)
  have hm : nmin (llen src) len ≤ len := Nat.min_le_right _ _
  have hms : nmin (llen src) len ≤ src.length := Nat.min_le_left _ _
  have hvl : (lsub src 0 (nmin (llen src) len)).length = nmin (llen src) len := lsub_len _ _ _ (by omega)
  generalize hv : lsub src 0 (nmin (llen src) len) = v at hvl ⊢
  have e1 : ∀ l, cwidth [Col.ints k l] = 1 := fun _ => rfl
  obtain ⟨w', h1, h2, h3, _⟩ := vec_store (P := P) (q := i) (cs' := [.ints k (lput l i v)]) (vs := v.map (Value.int k)) hR hn rfl (fun col hcol => by simp at hcol; subst hcol; show _ = _; rw [lput_len _ _ _ (by omega), hl]) (fun c kk ll hc => by cases c <;> simp at hc)
    (by rw [e1]; simp; omega) (fun u hu => by obtain ⟨_, _, rfl⟩ := List.mem_map.1 hu; rfl) (fun r hr t ht => by
      rw [e1] at ht ⊢
      have ht0 : t = 0 := by omega
      subst ht0
      simp only [Nat.mul_one, Nat.add_zero, rowVal, Col.kd, Kd.width, Nat.lt_one_iff, if_true, colVal, List.length_map]
      have hg := lput_get l v i r (by omega)
      rw [lget_some (l := lput l i v) (i := r) (by rw [lput_len _ _ _ (by omega)]; omega)] at hg
      by_cases hin : i ≤ r ∧ r < i + v.length
      · rw [if_pos hin] at hg ⊢
        rw [List.getElem?_map, ← hg]; rfl
      · rw [if_neg hin] at hg ⊢
        rw [lget_some (l := l) (i := r) (by omega)] at hg
        simp only [Option.some.injEq] at hg
        rw [hg])
  by_cases h0 : len = 0
  · have hv0 : v = [] := by cases v <;> simp_all
    rw [hv0] at h1 h3 ⊢
    have hw : w' = w := by simp [storeCells] at h1; exact h1.symm
    exact ⟨w', fun x _ => by rw [hw]; simp [storeCells], h2, fun _ => hw, h3⟩
  · have := hA h0
    exact ⟨w', fun x hx => (by rw [this] at hx; cases hx; exact h1), h2, fun q => (by rw [this] at q; cases q), h3⟩

theorem copyx_sound {tx ty ot : TypeId} {x y : AV} {vx vy : Value} {K : AV → Mem → Prop} (h : copyx P tx x y σ K) (hR : Rep E ρ fr σ a w) (hx : SRep ρ x vx) (hy : SRep ρ y vy) (hty : (∃ e', P.underlying ty = some (.slice e')) ∨ P.underlying ty = some .string) :
    ∃ m w' σ', (Builtin.copy_ #[tx, ty] ot #[vx, vy]).run P w = .ok (.int .i64 m) w' ∧ w.heap.size ≤ w'.heap.size ∧ Rep E ρ fr σ' a w' ∧ K (.one (.int .i64 m)) σ' := by
  unfold copyx at h
  split at h <;> try exact h.elim
  rename_i e hu
  split at h <;> try exact h.elim
  rename_i k bytes hk
  have hs := kinds_size hk
  obtain ⟨cy, Ly, hG, h'⟩ := rdy_sound (P := P) (w := w) h Nat.one_pos hR.mem hR.sep hy hty
  clear h
  have h := h'
  clear h'
  split at h <;> try exact h.elim
  rename_i k1 src
  split at h <;> try exact h.elim
  rename_i hk1
  subst hk1
  split at h <;> try exact h.elim
  · rename_i n
    split at h <;> try exact h.elim
    rename_i k2 l hn
    split at h <;> try exact h.elim
    rename_i hk2
    subst hk2
    have hV := (hR.mem n _ hn).1
    have hl : l.length = (ρ n).len := hV.ok (.ints k2 l) (by simp)
    obtain ⟨w', h1, h2, h3, h4⟩ := copy_vec (P := P) (src := src) (i := 0) (len := (ρ n).len) (A := (ρ n).a) hR hn (by omega) (fun q => hV.adr q)
    have e : llen l = (ρ n).len := hl
    rw [e] at h
    cases (show vx = _ from hx)
    exact ⟨_, w', _, run_copy hu hs hG h1 h3, by omega, h4, h⟩
  · rename_i n i len
    split at h <;> try exact h.elim
    rename_i k2 l hn
    split at h <;> try exact h.elim
    rename_i hk2
    subst hk2
    have hV := (hR.mem n _ hn).1
    obtain ⟨A, cap, rfl, g1, g2, g3, g4⟩ := hx
    obtain ⟨w', h1, h2, h3, h4⟩ := copy_vec (P := P) (src := src) (i := i) (len := len) (A := A) hR hn g2 (fun q => by
      rcases g3 with g3 | ⟨_, rfl⟩
      · omega
      · rw [g4 (by omega), Option.map_some, Loc.at_add, Nat.zero_add, Nat.mul_one]; rfl)
    exact ⟨_, w', _, run_copy hu hs hG h1 h3, by omega, h4, h⟩
  · rename_i n base idx len cap
    split at h <;> try exact h.elim
    rename_i T s hn
    split at h <;> try exact h.elim
    rename_i k2 N l hf
    split at h <;> try exact h.elim
    rename_i hk2
    subst hk2
    obtain ⟨hfit, h⟩ := h
    have hle : idx + len ≤ N := hfit.le
    split at h <;> try exact h.elim
    rename_i s' hset
    obtain ⟨hlc, hx⟩ := hx
    have hms : nmin (llen src) len ≤ src.length := Nat.min_le_left _ _
    have hml : nmin (llen src) len ≤ len := Nat.min_le_right _ _
    have hvl : (lsub src 0 (nmin (llen src) len)).length = nmin (llen src) len := lsub_len _ _ _ (by omega)
    have ho : segsOk s := (hR.mem n _ hn).1
    have hpart : storePart s (nmin (llen src) len) base idx [.ints k2 (nmin (llen src) len) (lsub src 0 (nmin (llen src) len))] (fun s'' => s'' = s') := by
      simp only [storePart, hf, if_true, hset, and_true]
      exact ⟨by simp only [nadd]; omega⟩
    obtain ⟨s'', rfl, q1, q2, q3, q4, q5⟩ := storePart_sound hpart ho ⟨hvl, trivial⟩
    obtain ⟨w', h1, h2, h3, _⟩ := put_sound (P := P) hR (vs := (lsub src 0 (nmin (llen src) len)).map (Value.int k2)) (yl := (lsub src 0 (nmin (llen src) len)).map (AC.int k2)) hn q1 q2 q3 (by simpa using hvl) (fun u hu => by obtain ⟨_, _, rfl⟩ := List.mem_map.1 hu; rfl) (fun j b u hb hu => by
      simp only [List.getElem?_map, Option.map_eq_some_iff] at hb hu
      obtain ⟨p, hp, rfl⟩ := hb
      obtain ⟨p', hp', rfl⟩ := hu
      rw [hp] at hp'; cases hp'; rfl) (fun j => by rw [q5 j]; simp [flat, Seg.flat])
    rcases hx with rfl | ⟨rfl, rfl, A, rfl⟩
    · exact ⟨_, w', _, run_copy (A := some (at_ ρ n (base + idx))) hu hs hG (fun x hx => by cases hx; exact h1) (fun q => by cases q), by omega, h3, h⟩
    · have hm0 : nmin (llen src) 0 = 0 := by omega
      have hv0 : lsub src 0 (nmin (llen src) 0) = [] := by rw [hm0] at hvl; cases hq : lsub src 0 (nmin (llen src) 0) <;> simp_all
      have hw : w' = w := by rw [hv0] at h1; simp [storeCells] at h1; exact h1.symm
      subst hw
      exact ⟨_, w', _, run_copy hu hs hG (fun x hx => by rw [hv0]; simp [storeCells]) (fun _ => rfl), by omega, h3, h⟩
end
end Go.Sx
