/- More operations that leave the memory alone. -/
import Derived.Test.YtccjkjpdgpeogaaSxW
namespace Go.Sx
open Go
set_option linter.unusedSimpArgs false
set_option linter.unusedVariables false
section
variable {P : Program} {ρ : Rho} {σ : Mem} {w0 : World} {K : AV → Prop}

theorem unx_sound {op : UnOp} {x : AV} {v1 : Value} (h : unx op x K) (hx : SRep ρ x v1) : ∃ v av, (∀ w : World, (Op.unary op v1).run P w = .ok v w) ∧ SRep ρ av v ∧ K av := by
  unfold unx at h
  split at h
  · cases (show v1 = _ from hx); exact okI (by simp [Op.unary, Op.intArith, sub]) h
  · cases (show v1 = _ from hx); exact okI (by simp [Op.unary, Op.intBits, bxor, bits]) h
  · cases (show v1 = _ from hx); exact okB (by simp [Op.unary, bnot]) h
  · rename_i b
    cases (show v1 = _ from hx); exact ok1 (a := .lit (!b)) (v := .bool (!b)) (by simp [Op.unary]) rfl h
  · exact h.elim

theorem convx_sound {s d : TypeId} {x : AV} {v1 : Value} (h : convx P s d x K) (hx : SRep ρ x v1) : ∃ v av, (∀ w : World, (convert s d v1).run P w = .ok v w) ∧ SRep ρ av v ∧ K av := by
  unfold convx at h
  split at h
  · cases (show v1 = _ from hx)
    split at h
    · rename_i hs hd
      refine okI (fun w => ?_) h
      unfold convert
      simp only [Sem.run_bind, run_underlying hs, run_underlying hd, Result.andThen_ok]
      simp [Conv.intToInt, conv]
    · exact h.elim
  · exact h.elim

theorem indexAddrx_sound {t : TypeId} {x ix : AV} {v1 v2 : Value} (h : indexAddrx P σ t x ix K) (hm : MemRep ρ σ w0) (hx : SRep ρ x v1) (hi : SRep ρ ix v2) :
    ∃ v av, (∀ w : World, (Instr.indexAt t v1 v2).run P w = .ok v w) ∧ SRep ρ av v ∧ K av := by
  unfold indexAddrx at h
  split at h
  · -- a list
    rename_i n k i
    cases (show v1 = _ from hx); cases (show v2 = _ from hi)
    split at h <;> try exact h.elim
    rename_i e hu
    split at h <;> try exact h.elim
    rename_i z cs hz hcs
    split at h <;> try exact h.elim
    rename_i hzw
    have hzw : z = cwidth cs := beq_nat hzw
    obtain ⟨hV, _⟩ := cols_sound hm hcs
    have h0 := h.1.lo; have h1 := h.1.hi
    have hl := hV.len
    have had := hV.adr (by omega)
    refine ok1 (a := .vptr n z (nat i) 0 0) ?_ ⟨rfl, by simp only [nat]; omega⟩ h.2
    intro w
    have e : ((ρ n).at 0).add (i.toNat * z) = at_ ρ n (nat i * z + 0 + 0) := by
      rw [Loc.at_add]; simp only [Loc.at, at_, nat]; congr 1; omega
    simp [Instr.indexAt, asIntOf, run_underlying hu, Instr.sureAddr, run_sizeB hz, h0, show i < ((ρ n).len : Int) by omega, had, e]
  · rename_i n z b len k i
    cases (show v2 = _ from hi)
    obtain ⟨A, cap, rfl, g1, g2, g3, g4⟩ := hx
    split at h <;> try exact h.elim
    rename_i e hu
    split at h <;> try exact h.elim
    rename_i z' hz
    split at h <;> try exact h.elim
    rename_i hzz
    subst hzz
    have h0 := h.1.lo; have h1 := h.1.hi
    rcases g3 with g3 | ⟨g3, rfl⟩
    · omega
    · have had := g4 (by omega)
      refine ok1 (a := .vptr n z' (nadd b (nat i)) 0 0) ?_ ⟨rfl, by simp only [nat, nadd]; omega⟩ h.2
      intro w
      have e : (((ρ n).at 0).add (b * z')).add (i.toNat * z') = at_ ρ n (nadd b (nat i) * z' + 0 + 0) := by
        rw [addr_add_add, Loc.at_add]; simp only [at_, Loc.at, nat, nadd, Nat.add_mul]; congr 1; omega
      simp [Instr.indexAt, asIntOf, run_underlying hu, Instr.sureAddr, run_sizeB hz, h0, h1, had, e]
  · rename_i n c r k i
    cases (show v2 = _ from hi)
    obtain ⟨rfl, hi⟩ := hx
    split at h <;> try exact h.elim
    rename_i e hu
    split at h <;> try exact h.elim
    rename_i k' ll hz hr
    obtain ⟨cs, hc, hlen, hV, _⟩ := rows_sound hm hr
    obtain ⟨q1, q2, q3, q4⟩ := hV.inner c _ ll hc r _ (llget_some (by omega))
    have h0 := h.1.lo; have h1 := h.1.hi
    have e1 : llen (llget ll r) = (llget ll r).length := rfl
    obtain ⟨a, ha⟩ := q3 (fun e => by rw [e1, e] at h1; simp at h1; omega)
    refine ok1 (a := .eptr n c r (nat i)) ?_ ⟨a, ha, rfl, by simp only [nat]; omega, hi⟩ h.2
    intro w
    simp [Instr.indexAt, asIntOf, run_underlying hu, Instr.sureAddr, run_sizeB hz, h0, show i < (((ρ n).el c r).len : Int) by omega, ha, nat]
  · rename_i n c r o len k i
    cases (show v2 = _ from hi)
    obtain ⟨A, cap, rfl, g1, g2, g3, g4, g5⟩ := hx
    split at h <;> try exact h.elim
    rename_i e hu
    split at h <;> try exact h.elim
    rename_i hz
    have h0 := h.1.lo; have h1 := h.1.hi
    rcases g4 with g4 | rfl
    · omega
    · obtain ⟨a, ha⟩ := g5 (by omega)
      refine ok1 (a := .eptr n c r (nadd o (nat i))) ?_ ⟨a, ha, rfl, by simp only [nat, nadd]; omega, g3⟩ h.2
      intro w
      simp [Instr.indexAt, asIntOf, run_underlying hu, Instr.sureAddr, run_sizeB hz, h0, h1, ha, addr_add_add, nadd, nat]
  · rename_i n z r b j k i
    cases (show v2 = _ from hi)
    obtain ⟨rfl, hr⟩ := hx
    split at h <;> try exact h.elim
    rename_i len e hu
    split at h <;> try exact h.elim
    rename_i hz
    have h0 := h.1.lo; have h1 := h.1.hi
    refine ok1 (a := .vptr n z r b (nadd j (nat i))) ?_ ⟨rfl, hr⟩ h.2
    intro w
    simp [Instr.indexAt, asIntOf, run_underlying hu, Instr.sureAddr, run_sizeB hz, h0, h1, at_add, nadd, nat, Nat.add_assoc]
  · rename_i n base idx k i
    cases (show v1 = _ from hx); cases (show v2 = _ from hi)
    split at h
    · rename_i len e hu
      split at h
      · rename_i hz
        refine ok1 (a := .ptr n base (nadd idx (nat i))) ?_ rfl h.2
        have h0 := h.1.lo; have h1 := h.1.hi
        simp [Instr.indexAt, asIntOf, run_underlying hu, Instr.sureAddr, run_sizeB hz, h0, h1, at_add, nadd, nat, Nat.add_assoc]
      · rename_i z _ hz
        refine ok1 (a := .ptr n base (nadd idx (nmul (nat i) z))) ?_ rfl h.2
        have h0 := h.1.lo; have h1 := h.1.hi
        simp [Instr.indexAt, asIntOf, run_underlying hu, Instr.sureAddr, run_sizeB hz, h0, h1, at_add, nadd, nat, nmul, Nat.add_assoc]
      · exact h.elim
    · exact h.elim
  · rename_i n base idx len cap k i
    cases (show v2 = _ from hi)
    split at h
    · rename_i e hu
      have key : ∀ z, sizeB P e = some z → InB i len → ∀ w : World, (Instr.indexAt t v1 (.int k i)).run P w = .ok (.pointer (some (at_ ρ n (base + (idx + nat i * z))))) w := by
        intro z hz hb w
        have h0 := hb.lo; have h1 := hb.hi
        rcases hx with ⟨_, rfl | ⟨rfl, _⟩⟩
        · simp [Instr.indexAt, asIntOf, run_underlying hu, Instr.sureAddr, run_sizeB hz, h0, h1, at_add, nat, Nat.add_assoc]
        · omega
      split at h
      · rename_i hz
        refine ok1 (a := .ptr n base (nadd idx (nat i))) (key 1 hz h.1) ?_ h.2
        simp [CRep, nadd]
      · rename_i z _ hz
        exact ok1 (a := .ptr n base (nadd idx (nmul (nat i) z))) (key z hz h.1) rfl h.2
      · exact h.elim
    · exact h.elim
  · exact h.elim

theorem part_one {e : TypeId} {cs : List Value} {i : Nat} {v : Value} (hag : isAggB P e = some false) (hv : cs[i]? = some v) (w : World) : (part e cs.toArray i).run P w = .ok v w := by
  simp [part, run_isAggB hag, hv]

theorem part_agg {e : TypeId} {cs : List Value} {i z : Nat} (hag : isAggB P e = some true) (hz : sizeB P e = some z) (w : World) : (part e cs.toArray i).run P w = .ok (.agg ((cs.drop i).take z).toArray) w := by
  simp [part, run_isAggB hag, run_sizeB hz]

theorem indexx_sound {t : TypeId} {x ix : AV} {v1 v2 : Value} (h : indexx P t x ix K) (hx : SRep ρ x v1) (hi : SRep ρ ix v2) :
    ∃ v av, (∀ w : World, (Instr.index t v1 v2).run P w = .ok v w) ∧ SRep ρ av v ∧ K av := by
  unfold indexx at h
  split at h
  · rename_i s k i
    cases (show v1 = _ from hx); cases (show v2 = _ from hi)
    split at h <;> try exact h.elim
    rename_i hu
    have h0 := h.1.lo; have h1 := h.1.hi
    have hlt : i.toNat < s.data.size := by
      have e : slen_ s = s.data.size := rfl
      omega
    refine okI ?_ h.2
    intro w
    have hs : s[i.toNat]? = some (s.data[i.toNat]) := by
      rw [getElem?_pos s i.toNat hlt]
      rfl
    simp [Instr.index, asIntOf, run_underlying hu, h0, hs, sget, nat, List.getD, hlt]
    rw [Array.getElem?_eq_getElem hlt]; rfl
  · rename_i k N l k' i
    obtain ⟨hl, rfl⟩ := srep_ints hx
    cases (show v2 = _ from hi)
    split at h
    · rename_i len e hu
      split at h
      · rename_i he hz
        split at h
        · rename_i hN
          have h0 := h.1.lo; have h1 := h.1.hi
          refine okI ?_ h.2
          have hp := part_one (P := P) (e := e) (cs := l.map (Value.int k)) (i := i.toNat) (v := .int k (lget l (nat i))) (by unfold isAggB; rw [he]) (by
            have : i.toNat < l.length := by omega
            simp [lget, nat, List.getD, this])
          simp [Instr.index, asIntOf, run_underlying hu, h0, h1, run_sizeB hz, hp]
        · exact h.elim
      · rename_i z he hz
        split at h
        · rename_i hN
          have h0 := h.1.lo; have h1 := h.1.hi
          have hp := part_agg (P := P) (e := e) (cs := l.map (Value.int k)) (i := i.toNat * z) (by unfold isAggB; rw [he]) hz
          refine ⟨.agg ((lsub l (nmul (nat i) z) z).map (Value.int k)).toArray, .agg [.ints k z (lsub l (nmul (nat i) z) z)], ?_, ⟨⟨?_, trivial⟩, _, rfl, ints_FRep ρ k z _⟩, h.2⟩
          · intro w
            simp only [Instr.index, asIntOf, Sem.run_bind, Sem.run_pure, Result.andThen_ok, run_underlying hu, h0, h1, run_sizeB hz, and_self, if_true, hp]
            simp [lsub, nmul, nat, List.map_take, List.map_drop]
          · have hq : i.toNat * z + z ≤ len * z := by
              have : (i.toNat + 1) * z ≤ len * z := Nat.mul_le_mul_right z (by omega)
              rw [Nat.add_mul, Nat.one_mul] at this; exact this
            simp only [Seg.ok, lsub, nmul, nat, List.length_take, List.length_drop]
            omega
        · exact h.elim
      · exact h.elim
    · exact h.elim
  · rename_i N l k' i
    obtain ⟨hl, rfl⟩ := srep_bools hx
    cases (show v2 = _ from hi)
    split at h
    · rename_i len e hu
      split at h
      · rename_i he hz
        split at h
        · rename_i hN
          have h0 := h.1.lo; have h1 := h.1.hi
          refine okB ?_ h.2
          have hp := part_one (P := P) (e := e) (cs := l.map Value.bool) (i := i.toNat) (v := .bool (lgetb l (nat i))) (by unfold isAggB; rw [he]) (by
            have : i.toNat < l.length := by omega
            simp [lgetb, nat, List.getD, this])
          simp [Instr.index, asIntOf, run_underlying hu, h0, h1, run_sizeB hz, hp]
        · exact h.elim
      · exact h.elim
    · exact h.elim
  · exact h.elim

theorem locate_sum : ∀ {s : List Seg} {o a b i : Nat}, locate s o a = some (b, i) → b + i = a + o
  | [], _, _, _, _, h => by simp [locate] at h
  | s :: r, o, a, b, i, h => by
    simp only [locate] at h
    split at h
    · simp only [Option.some.injEq, Prod.mk.injEq] at h; omega
    · have := locate_sum h; omega

theorem fieldAddrx_sound {t : TypeId} {x : AV} {f : Nat} {v1 : Value} (h : fieldAddrx P σ t x f K) (hx : SRep ρ x v1) :
    ∃ v av, (∀ w : World, (Instr.fieldAt t v1 f).run P w = .ok v w) ∧ SRep ρ av v ∧ K av := by
  unfold fieldAddrx at h
  split at h <;> try exact h.elim
  rotate_left
  · rename_i n z i b j
    obtain ⟨rfl, hi⟩ := hx
    split at h <;> try exact h.elim
    rename_i fs hu
    split at h <;> try exact h.elim
    rename_i fd hf
    split at h <;> try exact h.elim
    rename_i z' hz
    refine ok1 (a := .vptr n z i (b + fd.offset) 0) ?_ ⟨rfl, hi⟩ h
    simp [Instr.fieldAt, run_underlying hu, hf, Instr.sureAddr, fieldPlace, run_sizeB hz, at_add, Nat.add_assoc]
  rename_i n base idx
  cases (show v1 = _ from hx)
  split at h <;> try exact h.elim
  rename_i fs hu
  split at h <;> try exact h.elim
  rename_i fd hf
  split at h <;> try exact h.elim
  rename_i z hz
  have hrun : ∀ w : World, (Instr.fieldAt t (.pointer (some (at_ ρ n (base + idx)))) f).run P w = .ok (.pointer (some (at_ ρ n (base + idx + fd.offset)))) w := by
    simp [Instr.fieldAt, run_underlying hu, hf, Instr.sureAddr, fieldPlace, run_sizeB hz, at_add]
  split at h <;> try exact h.elim
  split at h
  · exact ok1 (a := .ptr n base (nadd idx fd.offset)) hrun (by simp [CRep, nadd, Nat.add_assoc]) h
  · split at h <;> try exact h.elim
    rename_i b' i' hl
    have := locate_sum hl
    exact ok1 (a := .ptr n b' i') hrun (by simp [CRep, this]) h

theorem extractx_sound {x : AV} {i : Nat} {v1 : Value} (h : extractx x i K) (hx : SRep ρ x v1) : ∃ v av, (∀ w : World, (Instr.extract v1 i).run P w = .ok v w) ∧ SRep ρ av v ∧ K av := by
  unfold extractx at h
  split at h <;> try exact h.elim
  rename_i vs
  obtain ⟨us, rfl, hlen, hall⟩ := hx
  split at h <;> try exact h.elim
  rename_i t ht
  have hi : i < us.length := by rw [← hlen]; exact (List.getElem?_eq_some_iff.1 ht).1
  have := hall i t us[i] ht (List.getElem?_eq_getElem hi)
  refine ⟨us[i], t.av, by simp [Instr.extract, hi], ?_, h⟩
  cases t <;> exact this

theorem arrx_sound {t : TypeId} {x : AV} {v1 : Value} (h : arrx P σ t x K) (hm : MemRep ρ σ w0) (hx : SRep ρ x v1) : ∃ v av, (∀ w : World, (Instr.arrayAt t v1).run P w = .ok v w) ∧ SRep ρ av v ∧ K av := by
  unfold arrx at h
  split at h <;> try exact h.elim
  · rename_i n
    split at h <;> try exact h.elim
    rename_i N e cs hu hcs
    obtain ⟨hV, _⟩ := cols_sound hm hcs
    have hl := h.1.le
    have hlen := hV.len
    have had := hV.adr (by omega)
    cases (show v1 = _ from hx)
    exact ok1 (a := .vptr n (width (kdsOf cs)) 0 0 0) (v := .pointer (some (at_ ρ n 0))) (by simp [Instr.arrayAt, run_underlying hu, show ¬ (ρ n).len < N + 1 by omega, had]; rfl) ⟨by simp, by omega⟩ h.2
  · rename_i n z i len
    split at h <;> try exact h.elim
    rename_i N e hu
    obtain ⟨A, cap, rfl, g1, g2, g3, g4⟩ := hx
    have hl := h.1.le
    rcases g3 with g3 | ⟨g3, rfl⟩
    · omega
    · have had := g4 (by omega)
      exact ok1 (a := .vptr n z i 0 0) (v := .pointer (some (at_ ρ n (i * z)))) (by simp [Instr.arrayAt, run_underlying hu, show ¬ len < N + 1 by omega, had, Loc.at_add]; simp [Loc.at, at_]) ⟨by simp, by omega⟩ h.2
  · rename_i n c i
    split at h <;> try exact h.elim
    rename_i N e k ll hu hr
    obtain ⟨cs, hc, hlen, hV, _⟩ := rows_sound hm hr
    obtain ⟨rfl, hi⟩ := hx
    obtain ⟨q1, q2, q3, q4⟩ := hV.inner c _ ll hc i _ (llget_some (by omega))
    have hl := h.1.le
    have e1 : llen (llget ll i) = (llget ll i).length := rfl
    obtain ⟨a, ha⟩ := q3 (fun e => by rw [e1, e] at hl; simp at hl)
    exact ok1 (a := .eptr n c i 0) (v := .pointer (some a)) (by simp [Instr.arrayAt, run_underlying hu, show ¬ ((ρ n).el c i).len < N + 1 by omega, ha]) ⟨a, ha, by simp [Addr.add], by omega, hi⟩ h.2
  · rename_i n c i o len
    split at h <;> try exact h.elim
    rename_i N e hu
    obtain ⟨A, cap, rfl, g1, g2, g3, g4, g5⟩ := hx
    have hl := h.1.le
    rcases g4 with g4 | rfl
    · omega
    · obtain ⟨a, ha⟩ := g5 (by omega)
      exact ok1 (a := .eptr n c i o) (v := .pointer (some (a.add o))) (by simp [Instr.arrayAt, run_underlying hu, show ¬ len < N + 1 by omega, ha]) ⟨a, ha, rfl, by omega, g3⟩ h.2
  rename_i n base idx len cap
  split at h <;> try exact h.elim
  rename_i N e hu
  have hl := h.1.le
  rcases hx with ⟨_, rfl | ⟨rfl, _⟩⟩
  · exact ok1 (a := .ptr n base idx) (by simp [Instr.arrayAt, run_underlying hu, show ¬ len < N + 1 by omega]) rfl h.2
  · omega

theorem lenx_sound {t : TypeId} {x : AV} {v1 : Value} (h : lenx P σ t x K) (hm : MemRep ρ σ w0) (hx : SRep ρ x v1) (ty : TypeId) : ∃ v av, (∀ w : World, (Builtin.len_ #[t] ty #[v1]).run P w = .ok v w) ∧ SRep ρ av v ∧ K av := by
  unfold lenx at h
  split at h
  · rename_i n e hu
    exact okI (by simp [Builtin.len_, run_underlying hu, goInt, ofNat]) h
  · rename_i e hu
    split at h
    · rename_i len cap
      refine okI ?_ h
      intro w
      rcases hx with ⟨_, rfl | ⟨rfl, rfl, a, rfl⟩⟩ <;> simp [Builtin.len_, run_underlying hu, goInt, ofNat]
    · obtain ⟨rfl, _⟩ := hx
      exact okI (by simp [Builtin.len_, run_underlying hu, goInt]) h
    · split at h <;> try exact h.elim
      rename_i n hn
      obtain ⟨A, cap, rfl, _⟩ := lenOfV_sound hn hm hx
      exact okI (by simp [Builtin.len_, run_underlying hu, goInt, ofNat]) h
  · rename_i hu
    split at h
    · cases (show v1 = _ from hx)
      exact okI (by simp [Builtin.len_, run_underlying hu, goInt, ofNat]) h
    · exact h.elim
  · rename_i a hu
    split at h
    · rename_i n e hu'
      exact okI (by simp [Builtin.len_, run_underlying hu, run_underlying hu', goInt, ofNat]) h
    · exact h.elim
  · exact h.elim

theorem boundx_sound {lo hi : Option AV} {vl vh : Option Value} {len cap : Nat} {K : Nat → Nat → Prop} (b : Bool) (h : boundx lo hi len cap K)
    (hl : ∀ x, lo = some x → ∃ v, vl = some v ∧ SRep ρ x v) (hl0 : lo = none → vl = none) (hh : ∀ x, hi = some x → ∃ v, vh = some v ∧ SRep ρ x v) (hh0 : hi = none → vh = none) :
    ∃ l u, K l u ∧ (∀ w : World, (Instr.sliceBounds b len cap vl vh none).run P w = .ok (l, u, cap) w) ∧ (hi = none → u = len) ∧ (hi ≠ none → u ≤ cap) ∧ (lo = none → l = 0) ∧ (lo ≠ none → l ≤ u) := by
  have bound : ∀ (k : IntKind) (i : Int) (y : Nat) (c : BoundsCode), 0 ≤ i → i.toNat ≤ y → ∀ w : World, (Instr.sliceBound (.int k i) y c).run P w = .ok i.toNat w := by
    intro k i y c h0 h1 w
    simp [Instr.sliceBound, asIntOf, h0, show i ≤ y by omega]
  unfold boundx at h
  split at h
  · have e1 := hl0 rfl; have e2 := hh0 rfl
    subst e1 e2
    exact ⟨0, len, h, by simp [Instr.sliceBounds], by simp, by simp, by simp, by simp⟩
  · rename_i k l
    have e2 := hh0 rfl
    obtain ⟨v, e1, hv⟩ := hl _ rfl
    cases (show v = _ from hv)
    subst e1 e2
    exact ⟨nat l, len, h.2, by simp [Instr.sliceBounds, bound _ _ _ _ h.1.1.le h.1.2.le, nat], by simp, by simp, by simp, fun _ => h.1.2.le⟩
  · rename_i k u
    have e1 := hl0 rfl
    obtain ⟨v, e2, hv⟩ := hh _ rfl
    cases (show v = _ from hv)
    subst e1 e2
    exact ⟨0, nat u, h.2, by simp [Instr.sliceBounds, bound _ _ _ _ h.1.1.le h.1.2.le, nat], by simp, fun _ => h.1.2.le, by simp, by simp⟩
  · rename_i k l k' u
    obtain ⟨v, e1, hv⟩ := hl _ rfl
    cases (show v = _ from hv)
    obtain ⟨v', e2, hv'⟩ := hh _ rfl
    cases (show v' = _ from hv')
    subst e1 e2
    exact ⟨nat l, nat u, h.2, by simp [Instr.sliceBounds, bound _ _ _ _ h.1.1.1.le h.1.1.2.le, bound _ _ _ _ h.1.2.1.le (show l.toNat ≤ u.toNat from h.1.2.2.le), nat], by simp, fun _ => h.1.1.2.le, by simp, fun _ => h.1.2.2.le⟩
  · exact h.elim

/-- the greatest bound, if there is one -/
theorem maxx_sound {lo hi mx : Option AV} {vl vh vm : Option Value} {len cap : Nat} {K : Nat → Nat → Prop} (b : Bool) (h : maxx hi mx len (boundx lo hi len len K)) (hc : len ≤ cap)
    (hl : ∀ x, lo = some x → ∃ v, vl = some v ∧ SRep ρ x v) (hl0 : lo = none → vl = none) (hh : ∀ x, hi = some x → ∃ v, vh = some v ∧ SRep ρ x v) (hh0 : hi = none → vh = none)
    (hm : ∀ x, mx = some x → ∃ v, vm = some v ∧ SRep ρ x v) (hm0 : mx = none → vm = none) :
    ∃ l u m, K l u ∧ (∀ w : World, (Instr.sliceBounds b len cap vl vh vm).run P w = .ok (l, u, m) w) ∧ u ≤ len ∧ l ≤ u ∧ u ≤ m ∧ m ≤ cap ∧ (lo = none → l = 0) := by
  have bound : ∀ (k : IntKind) (i : Int) (y : Nat) (c : BoundsCode), 0 ≤ i → i.toNat ≤ y → ∀ w : World, (Instr.sliceBound (.int k i) y c).run P w = .ok i.toNat w := by
    intro k i y c h0 h1 w
    simp [Instr.sliceBound, asIntOf, h0, show i ≤ y by omega]
  unfold maxx at h
  split at h
  · have e := hm0 rfl
    subst e
    unfold boundx at h
    split at h
    · have e1 := hl0 rfl; have e2 := hh0 rfl
      subst e1 e2
      exact ⟨0, len, cap, h, by simp [Instr.sliceBounds], by omega, by omega, hc, Nat.le_refl _, fun _ => rfl⟩
    · rename_i k l
      have e2 := hh0 rfl
      obtain ⟨v, e1, hv⟩ := hl _ rfl
      cases (show v = _ from hv)
      subst e1 e2
      have := h.1.2.le
      exact ⟨nat l, len, cap, h.2, by simp [Instr.sliceBounds, bound _ _ _ _ h.1.1.le h.1.2.le, nat], by omega, by simpa [nat] using this, hc, Nat.le_refl _, by simp⟩
    · rename_i k u
      have e1 := hl0 rfl
      obtain ⟨v, e2, hv⟩ := hh _ rfl
      cases (show v = _ from hv)
      subst e1 e2
      have := h.1.2.le
      exact ⟨0, nat u, cap, h.2, by simp [Instr.sliceBounds, bound _ _ _ _ h.1.1.le (show u.toNat ≤ cap from by simp only [nat] at this; omega), nat], this, by omega, by omega, Nat.le_refl _, fun _ => rfl⟩
    · rename_i k l k' u
      obtain ⟨v, e1, hv⟩ := hl _ rfl
      cases (show v = _ from hv)
      obtain ⟨v', e2, hv'⟩ := hh _ rfl
      cases (show v' = _ from hv')
      subst e1 e2
      have := h.1.1.2.le
      have h2 := h.1.2.2.le
      exact ⟨nat l, nat u, cap, h.2, by simp [Instr.sliceBounds, bound _ _ _ _ h.1.1.1.le (show u.toNat ≤ cap from by simp only [nat] at this; omega), bound _ _ _ _ h.1.2.1.le (show l.toNat ≤ u.toNat from h.1.2.2.le), nat], this, h2, by omega, Nat.le_refl _, by simp⟩
    · exact h.elim
  · rename_i k m
    obtain ⟨v, e, hv⟩ := hm _ rfl
    cases (show v = _ from hv)
    subst e
    split at h <;> try exact h.elim
    rename_i k' u
    obtain ⟨⟨m1, m2, u1, u2⟩, h⟩ := h
    obtain ⟨v', e2, hv'⟩ := hh _ rfl
    cases (show v' = _ from hv')
    subst e2
    have m1 := m1.le; have m2 := m2.le; have u1 := u1.le; have u2 := u2.le
    simp only [nat] at m2 u2
    unfold boundx at h
    split at h
    · rename_i q1 q2; cases q2
    · rename_i q1 q2; cases q2
    · rename_i k2 u' q
      cases q
      have e1 := hl0 rfl
      subst e1
      exact ⟨0, nat u, m.toNat, h.2, by simp [Instr.sliceBounds, bound _ _ _ _ m1 (show m.toNat ≤ cap by omega), bound _ _ _ _ u1 u2, nat], by simp only [nat]; omega, by omega, u2, by omega, fun _ => rfl⟩
    · rename_i k1 l k2 u' q
      cases q
      obtain ⟨v, e1, hv⟩ := hl _ rfl
      cases (show v = _ from hv)
      subst e1
      exact ⟨nat l, nat u, m.toNat, h.2, by simp [Instr.sliceBounds, bound _ _ _ _ m1 (show m.toNat ≤ cap by omega), bound _ _ _ _ u1 u2, bound _ _ _ _ h.1.2.1.le (show l.toNat ≤ u.toNat from h.1.2.2.le), nat], by simp only [nat]; omega, h.1.2.2.le, u2, by omega, by simp⟩
    · exact h.elim
  · exact h.elim

theorem mulZ_eq (z n : Nat) : mulZ z n = n * z := by
  unfold mulZ nmul
  split <;> simp
end
end Go.Sx
