/- append. -/
import Derived.Test.YtccjkjpdgpeogaaSxE
namespace Go.Sx
open Go
set_option linter.unusedSimpArgs false
set_option linter.unusedVariables false

theorem not_inner_ints {L : Loc} {k : IntKind} {l : List Int} {b : Nat} : ¬ Inner L [.ints k l] b := by
  rintro ⟨c, kk, ll, i, l', a, hc, _⟩
  cases c <;> simp at hc

theorem reads_vec {ρ : Rho} {σ : Mem} {w : World} {n : Nat} {cs : List Col} {v : Value} (hm : MemRep ρ σ w) (hs : Sep ρ σ) (hcs : Mem.cols σ n = some cs) (hx : CRep ρ (.vec n) v) : Reads ρ σ w v cs (ρ n) := by
  obtain ⟨h1, b, hb, hbb, hf⟩ := cols_sound hm hcs
  refine ⟨hx, h1, fun k hk => hs.inn hb ?_, fun q => hs.root hb (hf _ (Or.inl ⟨q, rfl⟩))⟩
  rcases hbb with rfl | rfl <;> exact hk

theorem reads_vsl {ρ : Rho} {σ : Mem} {w : World} {n z i len : Nat} {cs : List Col} {v : Value} (hm : MemRep ρ σ w) (hs : Sep ρ σ) (hcs : Mem.cols σ n = some cs) (hz : z = cwidth cs) (hx : CRep ρ (.vsl n z i len) v) :
    ∃ A cap, Reads ρ σ w v (cs.map (Col.sub i len)) ((ρ n).sub (cwidth cs) i len A cap) ∧ (cap = 0 ∨ (i + cap ≤ (ρ n).cap ∧ A = (ρ n).a.map (·.add (i * cwidth cs)))) := by
  subst hz
  obtain ⟨h1, b, hb, hbb, hf⟩ := cols_sound hm hcs
  obtain ⟨A, cap, rfl, h2, h3, h4, _⟩ := hx
  refine ⟨A, cap, ⟨rfl, h1.sub h3 h2 (fun q => ?_), fun k hk => hs.inn hb ?_, fun q => hs.root hb (hf _ (Or.inl ⟨by have : len ≠ 0 := q; omega, rfl⟩))⟩, h4⟩
  · have q' : len ≠ 0 := q
    rcases h4 with h4 | ⟨_, rfl⟩
    · omega
    · rw [h1.adr (by omega), Option.map_some, Loc.at_add, Nat.zero_add]
  · have := hk.sub
    rcases hbb with rfl | rfl <;> exact this

theorem reads_sl {ρ : Rho} {σ : Mem} {w : World} {n base idx len cap N : Nat} {k : IntKind} {l : List Int} {b : Blk} {v : Value} (hm : MemRep ρ σ w) (hs : Sep ρ σ) (hb : Mem.find σ n = some b) (hf : findSeg b.segs base = some (.ints k N l)) (hle : idx + len ≤ N) (hx : CRep ρ (.sl n base idx len cap) v) :
    ∃ L, Reads ρ σ w v [.ints k (lsub l idx len)] L ∧ (L.cap ≠ 0 → L.cap = cap ∧ L.1 = (ρ n).1 ∧ L.2 = (ρ n).2 + (base + idx) ∧ L.a = some (L.at 0)) := by
  obtain ⟨ho, hc⟩ := (hm n b hb).cells
  obtain ⟨h1, h2⟩ := cells_ints ho hc hf hle
  obtain ⟨hlc, hx⟩ := hx
  have hlen := lsub_len l idx len (by omega)
  have foot : len ≠ 0 → Foot ρ n b (ρ n).1 := fun q => by
    have hne : flat b.segs ≠ [] := fun e => by
      have := findSeg_len hf
      have hl := flat_length ho
      rw [e] at hl
      simp only [Seg.len] at this
      simp at hl; omega
    cases b with
    | own T s => rfl
    | view s => exact ⟨hne, rfl⟩
    | vec cs => exact absurd rfl hne
    | rview cs => exact absurd rfl hne
  rcases hx with rfl | ⟨rfl, rfl, a, rfl⟩
  · refine ⟨⟨(ρ n).1, (ρ n).2 + (base + idx), some (at_ ρ n (base + idx)), len, cap, fun _ _ => ⟨none, 0, 0⟩⟩, ⟨rfl, .ofInts hlen hlc (fun _ => rfl) (fun j x hx => ?_), fun k hk => absurd hk not_inner_ints, fun q => hs.root hb (foot q)⟩, fun _ => ⟨rfl, rfl, rfl, rfl⟩⟩
    have := h2 j x hx
    simp only [at_, Loc.at] at this ⊢
    rw [← this]; congr 2; omega
  · exact ⟨⟨0, 0, a, 0, 0, fun _ _ => ⟨none, 0, 0⟩⟩, ⟨rfl, .ofInts hlen (Nat.le_refl _) (fun q => absurd rfl q) (fun j x hx => by rw [lsub_get] at hx; simp at hx), fun k hk => absurd hk not_inner_ints, fun q => absurd rfl q⟩, fun q => absurd rfl q⟩

theorem writable_sub {w : World} {L : Loc} {z i len cap : Nat} {A : Option Addr} (h : Writable w L z) (hA : cap = 0 ∨ (i + cap ≤ L.cap ∧ A = L.a.map (·.add (i * z)))) : Writable w (L.sub z i len A cap) z := by
  intro hc
  have hc' : cap ≠ 0 := hc
  rcases hA with hA | ⟨h1, h2⟩
  · exact absurd hA hc'
  · obtain ⟨g1, c, T, fz, g2, g3, g4⟩ := h (by omega)
    refine ⟨by show A = some (L.at (i * z)); rw [h2, g1, Option.map_some, Loc.at_add, Nat.zero_add], c, T, fz, g2, ?_, g4⟩
    show L.2 + i * z + cap * z ≤ c.size
    have : (i + cap) * z ≤ L.cap * z := Nat.mul_le_mul_right _ h1
    rw [Nat.add_mul] at this; omega

section
variable {P : Program} {E : Env} {ρ : Rho} {fr : Fr} {σ : Mem} {a : Act} {w : World}

/-- a slice that the walk may take for itself -/
structure Takes (ρ : Rho) (σ : Mem) (w : World) (v : Value) (cs : List Col) (L : Loc) (σ1 : Mem) : Prop where
  reads : Reads ρ σ w v cs L
  write : Writable w L (cwidth cs)
  less : ∀ m b, Mem.find σ1 m = some b → Mem.find σ m = some b
  gone : L.cap ≠ 0 → ∃ n b, Mem.find σ n = some b ∧ Out ρ n b L.1 ∧ Mem.find σ1 n = none

theorem erase_less (n : Nat) : ∀ m b, Mem.find (σ.erase n) m = some b → Mem.find σ m = some b := fun m b h => by
  rw [find_erase] at h; split at h <;> first | exact h | cases h
theorem erase_gone (n : Nat) : Mem.find (σ.erase n) n = none := by rw [find_erase, if_pos rfl]

theorem takex_sound {ks : List Kd} {x : AV} {v : Value} {K : List Col → Mem → Prop} (h : takex σ ks x K) (hks : 0 < width ks) (hm : MemRep ρ σ w) (hs : Sep ρ σ) (hx : SRep ρ x v) : ∃ cs L σ1, Takes ρ σ w v cs L σ1 ∧ K cs σ1 := by
  unfold takex at h
  split at h
  · rename_i n
    split at h <;> try exact h.elim
    rename_i cs hn
    have hcs : Mem.cols σ n = some cs := by simp [Mem.cols, hn]
    exact ⟨cs, ρ n, _, ⟨reads_vec hm hs hcs hx, (hm n _ hn).2, erase_less n, fun q => ⟨n, _, hn, ⟨q, rfl⟩, erase_gone n⟩⟩, h⟩
  · rename_i n z i len
    split at h <;> try exact h.elim
    rename_i cs hn
    split at h <;> try exact h.elim
    rename_i hz
    have hcs : Mem.cols σ n = some cs := by simp [Mem.cols, hn]
    obtain ⟨A, cap, h1, h2⟩ := reads_vsl hm hs hcs (beq_nat hz) hx
    have hw : cwidth (cs.map (Col.sub i len)) = cwidth cs := by simp [cwidth, sub_kds]
    refine ⟨_, _, _, ⟨h1, by rw [hw]; exact writable_sub (hm n _ hn).2 h2, erase_less n, fun q => ⟨n, _, hn, ⟨?_, rfl⟩, erase_gone n⟩⟩, h⟩
    have q' : cap ≠ 0 := q
    rcases h2 with h2 | ⟨h2, _⟩
    · exact absurd h2 q'
    · omega
  · rename_i n base idx len cap
    split at h <;> try exact h.elim
    rename_i T s hn
    split at h <;> try exact h.elim
    rename_i k N l hf
    have hle : idx + cap ≤ N := h.1.le
    have hlc : len ≤ cap := hx.1
    obtain ⟨L, h1, h2⟩ := reads_sl hm hs hn (b := .own T s) hf (by omega) hx
    refine ⟨_, L, _, ⟨h1, fun q => ?_, erase_less n, fun q => ⟨n, _, hn, (h2 q).2.1, erase_gone n⟩⟩, h.2⟩
    obtain ⟨q1, q2, q3, q4⟩ := h2 q
    obtain ⟨ho, hz, c, fz, hh, hfr, hfz⟩ := hm n _ hn
    refine ⟨q4, c.toArray, T, fz, by rw [q2]; exact hh, ?_, by simpa using hfz⟩
    have e : cwidth [Col.ints k (lsub l idx len)] = 1 := rfl
    have hl := findSeg_len hf
    have hcl : c.length = slen s := by rw [← hfr.1, flat_length ho]
    simp only [Seg.len] at hl
    rw [e, q1, q3, hz]
    simp
    omega
  · obtain ⟨rfl, _⟩ := hx
    obtain ⟨g1, g2⟩ := nil_rep (w := w) hks
    exact ⟨_, loc0, σ, ⟨⟨rfl, g1, fun k hk => absurd (Or.inr hk) (g2 k), fun q => absurd rfl q⟩, fun q => absurd rfl q, fun _ _ q => q, fun q => absurd rfl q⟩, h⟩
  · exact h.elim

theorem room_fits {need old bytes : Nat} (h : Room need bytes) (hlt : old < need) : Builtin.nextslicecap need old * bytes ≤ 281474976710656 := by
  have key : 4 * Builtin.nextslicecap need old ≤ 5 * need + 4096 := by
    unfold Builtin.nextslicecap
    split
    · omega
    · split
      · omega
      · rw [growBy_four]
        repeat' split
        all_goals omega
  have h1 : 4 * (Builtin.nextslicecap need old * bytes) ≤ (5 * need + 4096) * bytes := by
    rw [← Nat.mul_assoc]; exact Nat.mul_le_mul_right _ key
  have := h.le
  omega

/-- the bytes of a text, as a list that is read -/
theorem byteCells_rows (s : ByteArray) (L : Loc) (hL : L.len = (bytesIn s).length) : byteCells s = rowCells L [.ints .u8 (bytesIn s)] := by
  have e : cwidth [Col.ints .u8 (bytesIn s)] = 1 := rfl
  apply List.ext_getElem?
  intro j
  simp only [rowCells, e, Nat.mul_one, hL, byteCells, List.getElem?_map]
  by_cases hj : j < (bytesIn s).length
  · have hj' : j < s.data.toList.length := by simpa [bytesIn] using hj
    have ed : j / 1 = j := Nat.div_one j
    have em : j % 1 = 0 := Nat.mod_one j
    simp only [List.getElem?_range hj, Option.map_some, List.getElem?_eq_getElem hj', ed, em, rowVal, Col.kd, Kd.width, colVal, Nat.lt_one_iff, if_true]
    simp only [lget, List.getD, bytesIn, List.getElem?_map, List.getElem?_eq_getElem hj', Option.map_some, Option.getD_some]
  · have hj' : ¬ j < s.data.toList.length := by simpa [bytesIn] using hj
    rw [List.getElem?_eq_none (by simpa using hj'), List.getElem?_eq_none (by simpa using hj)]; rfl

/-- what is appended: a list or a text -/
structure Gives (P : Program) (ρ : Rho) (σ : Mem) (w : World) (ty : TypeId) (v : Value) (cs : List Col) (L : Loc) : Prop where
  src : Src P (cwidth cs) ty v L.len (rowCells L cs) w
  ok : ∀ x ∈ cs, x.ok L.len
  inner : ∀ c k ll, cs[c]? = some (Col.rows k ll) → ∀ i l, ll[i]? = some l → EltRep w (L.el c i) k l
  clean : ∀ k, Inner L cs k → Clean ρ σ k ∧ k < w.heap.size
  firstN : ∀ n, n ≤ L.len → (Builtin.firstCells (cwidth cs) n v).run P w = .ok ((rowCells L cs).take (n * cwidth cs)).toArray w

theorem seq_kind {ty : TypeId} (h : appendx.isSeq P ty = true) : (∃ e', P.underlying ty = some (.slice e')) ∨ P.underlying ty = some .string := by
  unfold appendx.isSeq at h
  split at h
  · rename_i e he; exact Or.inl ⟨e, he⟩
  · rename_i he; exact Or.inr he
  · cases h

theorem rdy_sound {ks : List Kd} {y : AV} {v : Value} {K : List Col → Prop} {ty : TypeId} (h : rdy σ ks y K) (hks : 0 < width ks) (hm : MemRep ρ σ w) (hs : Sep ρ σ) (hx : SRep ρ y v) (hty : (∃ e', P.underlying ty = some (.slice e')) ∨ P.underlying ty = some .string) :
    ∃ cs L, Gives P ρ σ w ty v cs L ∧ K cs := by
  unfold rdy at h
  split at h
  · rename_i s
    split at h <;> try exact h.elim
    cases (show v = _ from hx)
    have hl : (bytesIn s).length = s.size := by show _ = s.data.size; simp [bytesIn]
    have hr := byteCells_rows s ⟨0, 0, none, s.size, s.size, fun _ _ => ⟨none, 0, 0⟩⟩ hl.symm
    refine ⟨[.ints .u8 (bytesIn s)], ⟨0, 0, none, s.size, s.size, fun _ _ => ⟨none, 0, 0⟩⟩, ⟨?_, fun x hx => by simp at hx; subst hx; exact hl, fun c k ll hc => by cases c <;> simp at hc, fun k hk => absurd hk not_inner_ints, fun n hn => ?_⟩, h⟩
    rotate_left
    · have e : cwidth [Col.ints .u8 (bytesIn s)] = 1 := rfl
      rw [← hr, e, Nat.mul_one]
      simp [Builtin.firstCells, byteCells]
      apply Array.ext'
      simp
    rw [← hr]
    have e : cwidth [Col.ints .u8 (bytesIn s)] = 1 := rfl
    rw [e]
    exact ⟨hty, fun _ => rfl, firstCells_string s w, firstCells_string s w.drew, by rw [byteCells_length, Nat.mul_one], fun u hu => by
      obtain ⟨_, _, rfl⟩ := List.mem_map.1 hu
      rfl⟩
  · obtain ⟨cs, L, hr, hK⟩ := rdx_sound h hks hm hs hx
    refine ⟨cs, L, ⟨?_, hr.rep.ok, hr.rep.inner, fun k hk => ⟨hr.clean k hk, inner_lt hr.rep hk⟩, fun n hn => ?_⟩, hK⟩
    · rw [hr.val]
      exact hr.rep.src hty
    · rw [hr.val]
      exact hr.rep.firstN hn

/-- what appending comes to -/
theorem append_sound {tx ty ot e : TypeId} {ks : List Kd} {bytes d : Nat} {cx cy : List Col} {Lx Ly : Loc} {σ1 : Mem} {vx vy : Value} (hR : Rep E ρ fr σ a w) (hu : P.underlying tx = some (.slice e)) (hk : elemKinds P e = some (ks, bytes)) (hx : Takes ρ σ w vx cx Lx σ1) (hy : Gives P ρ σ w ty vy cy Ly)
    (h1 : kdsOf cx = ks) (h2 : kdsOf cy = ks) (hroom : Room (clen cx + clen cy) bytes) (hd : freshB d fr σ1 = true) :
    ∃ v w' L, (Builtin.append_ #[tx, ty] ot #[vx, vy]).run P w = .ok v w' ∧ v = .slice L.a L.len L.cap ∧ w.heap.size ≤ w'.heap.size ∧ Rep E (upd ρ d L) fr (Mem.ins d (.vec (catCols cx cy)) σ1) a w' := by
  obtain ⟨i, z, hi, hz, hzero, hsize, hwid, hbytes, _⟩ := elemKinds_sound hk
  have hkk : kdsOf cx = kdsOf cy := h1.trans h2.symm
  have wx : cwidth cx = width ks := by rw [cwidth, h1]
  have wy : cwidth cy = width ks := by rw [cwidth, h2]
  have wc : cwidth (catCols cx cy) = width ks := by rw [cwidth, catCols_kds hkk, h1]
  have hRx := hx.reads.rep
  have lx : clen cx = Lx.len := hRx.len
  have ly : clen cy = Ly.len := clen_ok (fun q => by rw [q] at wy; rw [← wy] at hwid; exact absurd hwid (by decide)) hy.ok
  rw [lx, ly] at hroom
  have hsrc := hy.src
  rw [wy, ← hsize] at hsrc
  have hR1 : Rep E ρ fr σ1 a w := hR.less hR.fr hx.less
  have cl1 : ∀ k, Clean ρ σ k → Clean ρ σ1 k := fun k hc m b hb => hc m b (hx.less m b hb)
  have hval := hx.reads.val
  by_cases hfit : Lx.len + Ly.len ≤ Lx.cap
  · -- there is room
    let L : Loc := ⟨Lx.1, Lx.2, Lx.a, Lx.len + Ly.len, Lx.cap, catEl Lx Ly⟩
    by_cases hcap : Lx.cap = 0
    · -- nothing at all
      have l0 : Lx.len = 0 := by omega
      have m0 : Ly.len = 0 := by omega
      have hnil : rowCells Ly cy = [] := by simp [rowCells, m0]
      have hcells := hsrc.cells
      rw [hnil, m0] at hcells
      have hrun : (Builtin.append_ #[tx, ty] ot #[vx, vy]).run P w = .ok (.slice Lx.a 0 0) w := by
        have hlen := hsrc.len
        rw [m0] at hlen
        rw [hval, l0, hcap]
        rcases hsrc.kind with ⟨e', hkd⟩ | hkd <;> cases Lx.a <;> simp [Builtin.append_, run_underlying hu, run_underlying hkd, sizeOf, typeInfo, hi, hlen, hcells, storeCells]
      have hV : VRep w L (catCols cx cy) := cat_rep (N := L) hRx hy.ok hy.inner hkk rfl rfl hfit (fun q => by have : Lx.len + Ly.len ≠ 0 := q; omega) (fun j v hj => by
        have hxn : rowCells Lx cx = [] := by simp [rowCells, l0]
        rw [hxn, hnil] at hj; simp at hj) (fun _ _ => rfl) (fun _ _ => rfl)
      refine ⟨_, w, L, hrun, by show _ = Value.slice Lx.a (Lx.len + Ly.len) Lx.cap; rw [l0, m0, hcap], Nat.le_refl _, ?_⟩
      refine (add_sound (b := .vec (catCols cx cy)) hR1 hd hR.keep (fun _ _ _ _ _ => rfl) ⟨by rw [upd_eq]; exact hV, by rw [upd_eq]; exact fun q => absurd hcap q⟩ (fun k hk => ?_) (fun k hk => ?_)).find_eq (find_ins (freshB_parts hd).2.2)
      · simp only [Out, upd_eq] at hk; exact absurd hcap hk.1
      · simp only [Foot, upd_eq] at hk
        rcases hk with ⟨q, _⟩ | hk
        · exact absurd hcap q
        · rcases inner_cat rfl hkk hRx.ok hk with q | q
          · exact cl1 k (hx.reads.clean k q)
          · exact cl1 k (hy.clean k q).1
    · obtain ⟨ha, c, T, fz, hh, hcz, hfz⟩ := hx.write hcap
      obtain ⟨n, b, hn, hO, hgone⟩ := hx.gone hcap
      rw [wx] at hcz
      have hnl := hsrc.newsLen
      have hlen2 : (Lx.len + Ly.len) * width ks ≤ Lx.cap * width ks := Nat.mul_le_mul_right _ hfit
      rw [Nat.add_mul] at hlen2
      rw [hsize] at hnl
      obtain ⟨w', cur', e1, e2, e3, e4, e5, e6, e7, e8, e9⟩ := store_cells P (g := Lx.1) (o := Lx.2 + Lx.len * width ks) (rowCells Ly cy) 0 c.toList w hh (by simpa using hfz) (by simp; omega) hsrc.one
      have hrun : (Builtin.append_ #[tx, ty] ot #[vx, vy]).run P w = .ok (.slice Lx.a (Lx.len + Ly.len) Lx.cap) w' := by
        have hcells := hsrc.cells
        have hlen := hsrc.len
        rw [hval, ha]
        have hadd : (Lx.at 0).add (Lx.len * width ks) = ⟨Lx.1, Lx.2 + Lx.len * width ks, none⟩ := by rw [Loc.at_add, Nat.zero_add]; rfl
        rw [hsize] at hcells
        rcases hsrc.kind with ⟨e', hkd⟩ | hkd <;> simp [Builtin.append_, run_underlying hu, run_underlying hkd, sizeOf, typeInfo, hi, hlen, hfit, hsize, hcells, hadd, e1]
      have hinn : ∀ k, Clean ρ σ k → w'.heap[k]? = w.heap[k]? := fun k hc => e3 k fun q => by subst q; exact hc n b hn hO
      have hV : VRep w' L (catCols cx cy) := cat_rep (N := L) hRx hy.ok hy.inner hkk rfl rfl hfit (fun _ => ha) (fun j v hj => by
        have hlt : j < Lx.len * width ks + Ly.len * width ks := by
          have := (List.getElem?_eq_some_iff.1 hj).1
          rw [List.length_append, rowCells_len, rowCells_len, wx, wy] at this; exact this
        have h9 := e9 (Lx.2 + j)
        simp only [World.cell?, Loc.at, L, e2, Option.isSome_none, Bool.false_eq_true, if_false]
        rw [List.getElem?_toArray, h9]
        rw [List.getElem?_append, rowCells_len, wx] at hj
        by_cases hjx : j < Lx.len * width ks
        · rw [if_pos hjx] at hj
          rw [if_neg (by omega)]
          have := hRx.cell hj
          simp only [World.cell?, Loc.at, hh, Option.isSome_none, Bool.false_eq_true, if_false] at this
          simpa using this
        · rw [if_neg hjx] at hj
          rw [if_pos (by omega), ← hj]
          congr 1; omega) (fun k hk => hinn k (hx.reads.clean k hk)) (fun k hk => hinn k (hy.clean k hk).1)
      have hother : ∀ m c', Mem.find σ1 m = some c' → m ≠ n := fun m c' hm q => by subst q; rw [hgone] at hm; cases hm
      refine ⟨_, w', L, hrun, rfl, by rw [e4]; exact Nat.le_refl _, ?_⟩
      refine (add_sound (b := .vec (catCols cx cy)) hR1 hd ⟨e5.trans hR.keep.os, e6.trans hR.keep.tape, e7.trans hR.keep.output, by rw [e4]; exact hR.keep.size, fun k hk hx' => ?_⟩ (fun m c' k hm hk => e3 k fun q => ?_) ⟨by rw [upd_eq]; exact hV, by rw [upd_eq]; exact fun _ => ⟨ha, cur'.toArray, T, fz, e2, by rw [wc]; show Lx.2 + Lx.cap * width ks ≤ _; simp [e8]; omega, by simpa [e8] using hfz⟩⟩ (fun k hk => ?_) (fun k hk => ?_)).find_eq (find_ins (freshB_parts hd).2.2)
      · rw [← hR.keep.block k hk hx']
        refine e3 k fun q => ?_
        subst q
        rcases hR.own n b _ hn hO with q | q
        · omega
        · exact hx' q
      · subst q
        exact hR.sep.1 n m b c' _ hn (hx.less m c' hm) (Ne.symm (hother m c' hm)) hO hk
      · simp only [Out, upd_eq] at hk
        obtain ⟨_, hk⟩ := hk
        have hk' : k = Lx.1 := hk
        subst hk'
        refine ⟨hR.own n b _ hn hO, fun m c' hm hF => hR.sep.1 n m b c' _ hn (hx.less m c' hm) (Ne.symm (hother m c' hm)) hO hF, fun hI => ?_⟩
        simp only [Inn, upd_eq] at hI
        rcases inner_cat rfl hkk hRx.ok hI with q | q
        · exact hx.reads.clean _ q n b hn hO
        · exact (hy.clean _ q).1 n b hn hO
      · simp only [Foot, upd_eq] at hk
        rcases hk with ⟨_, hk⟩ | hk
        · have hk' : k = Lx.1 := hk
          subst hk'
          exact fun m c' hm hO' => hR.sep.1 n m b c' _ hn (hx.less m c' hm) (Ne.symm (hother m c' hm)) hO hO'.foot
        · rcases inner_cat rfl hkk hRx.ok hk with q | q
          · exact cl1 k (hx.reads.clean k q)
          · exact cl1 k (hy.clean k q).1
  · -- a new block
    have hg : Lx.cap < Lx.len + Ly.len := by omega
    have hfirst := hRx.drew.first (P := P)
    rw [wx, ← hsize] at hfirst
    have hb := hroom.le
    have h63 : ((Lx.len + Ly.len : Nat) : Int) ≤ 9223372036854775807 := by
      have : (5 * (Lx.len + Ly.len) + 4096) * 1 ≤ (5 * (Lx.len + Ly.len) + 4096) * bytes := Nat.mul_le_mul_left _ (by omega)
      omega
    have hrun := run_append_grow_src (P := P) w tx ty ot e i z hu hi hz Lx.a Lx.len Lx.cap (rowCells Lx cx) hfirst vy Ly.len (rowCells Ly cy) hsrc hg h63 (by rw [hbytes]; exact room_fits hroom hg)
    rw [← hval] at hrun
    generalize hG : grownCap w (Lx.len + Ly.len) Lx.cap e = G at hrun
    have hGle : Lx.len + Ly.len ≤ G := by
      rw [← hG]; unfold grownCap Question.cut; simp
    generalize hC : (rowCells Lx cx ++ rowCells Ly cy).toArray ++ Builtin.zeroCells z.cells (G - (Lx.len + Ly.len)) = C at hrun
    have zsz : z.cells.size = width ks := by
      have := zero_len hzero
      simpa using this
    have hCs : C.size = G * width ks := by
      rw [← hC, Array.size_append, List.size_toArray, List.length_append, rowCells_len, rowCells_len, wx, wy, size_zeroCells, zsz, ← Nat.add_mul, ← Nat.add_mul]
      congr 1; omega
    let L : Loc := ⟨w.heap.size, 0, some ⟨w.heap.size, 0, none⟩, Lx.len + Ly.len, G, catEl Lx Ly⟩
    have new : (w.drew.alloc (.cells C e)).heap[w.heap.size]? = some (.cells C e) := by
      show (w.heap.push _)[w.heap.size]? = _
      simp
    have old : ∀ k, k < w.heap.size → (w.drew.alloc (.cells C e)).heap[k]? = w.heap[k]? := fun k hk => with_old (o := .cells C e) hk
    have hV : VRep (w.drew.alloc (.cells C e)) L (catCols cx cy) := cat_rep (N := L) hRx hy.ok hy.inner hkk rfl rfl hGle (fun _ => rfl) (fun j v hj => by
      simp only [World.cell?, Loc.at, L, new, Option.isSome_none, Bool.false_eq_true, if_false, Nat.zero_add]
      have hlt := (List.getElem?_eq_some_iff.1 hj).1
      rw [← hC, Array.getElem?_append, if_pos (by simpa using hlt), List.getElem?_toArray]
      exact hj) (fun k hk => old k (inner_lt hRx hk)) (fun k hk => old k (hy.clean k hk).2)
    refine ⟨_, _, L, hrun, rfl, by show _ ≤ (w.heap.push _).size; simp, newvec (L := L) hR1 hd (C := C) (T := e) (fz := (0, 0)) rfl rfl rfl rfl hV rfl rfl rfl (by rw [wc, hCs]; exact Nat.le_refl _) (fun j _ => by simp) (fun k hk => ?_)⟩
    rcases inner_cat rfl hkk hRx.ok hk with q | q
    · exact ⟨cl1 k (hx.reads.clean k q), inner_lt hRx q⟩
    · exact ⟨cl1 k (hy.clean k q).1, (hy.clean k q).2⟩
end
end Go.Sx
