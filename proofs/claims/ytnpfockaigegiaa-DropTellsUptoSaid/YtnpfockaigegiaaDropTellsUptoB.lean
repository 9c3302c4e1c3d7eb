import Derived.Test.YtnpfockaigegiaaDropTellsUptoA
import Derived.Laws.MakeOwn
import Derived.Laws.IdiomStrings
import Derived.Laws.BytesArg
set_option linter.unusedSimpArgs false
set_option linter.unusedVariables false
namespace Go.Sx
open Go
section
variable {P : Program} {ρ : Rho} {σ : Mem} {w : World} {K : AV → Prop}
theorem acIs_sound (ρ : Rho) : ∀ {a : AC} {v : Value}, acIs a v = true → CRep ρ a v := by
 intro a v h
 unfold acIs at h
 split at h
 ·rename_i k n k' n'
  simp only [Bool.and_eq_true, beq_iff_eq] at h
  obtain ⟨hk, rfl⟩ := h
  have : k = k' := by cases k <;> cases k' <;> first | rfl | (exact absurd hk (by decide))
  subst this; rfl
 ·simp only [beq_iff_eq] at h; subst h; rfl
 ·simp only [beq_iff_eq] at h; subst h; rfl
 ·have := of_decide_eq_true h; subst this; rfl
 ·exact ⟨rfl, rfl⟩
 ·exact ⟨rfl, rfl⟩
 ·exact ⟨rfl, rfl⟩
 ·exact ⟨rfl, rfl⟩
 ·exact ⟨rfl, rfl⟩
 ·cases h
theorem flatIs_sound (ρ : Rho) : ∀ {l : List AC} {c : List Value}, flatIs l c = true → FRep ρ l c
 | [], [], _ => ⟨rfl, fun j a v h => by simp at h⟩
 | a :: l, v :: c, h => by
  simp only [flatIs, Bool.and_eq_true] at h
  obtain ⟨h1, h2⟩ := flatIs_sound ρ h.2
  refine ⟨by simp [h1], fun j => ?_⟩
  cases j with
  | zero => intro a' v' ha hv; simp at ha hv; subst ha hv; exact acIs_sound ρ h.1
  | succ j => intro a' v' ha hv; simp at ha hv; exact h2 j a' v' ha hv
 | [], _ :: _, h => by simp [flatIs] at h
 | _ :: _, [], h => by simp [flatIs] at h
theorem shapeB_sound : ∀ {s : List Seg}, shapeB s = true → segsOk s
 | [], _ => trivial
 | .ints k n l :: r, h => by simp only [shapeB, Bool.and_eq_true, beq_iff_eq] at h; exact ⟨h.1, shapeB_sound h.2⟩
 | .bools n l :: r, h => by simp only [shapeB, Bool.and_eq_true, beq_iff_eq] at h; exact ⟨h.1, shapeB_sound h.2⟩
 | .cells cs :: r, h => ⟨trivial, shapeB_sound h⟩
theorem zeroSegs_sound {t : TypeId} {s : List Seg} (h : zeroSegs P t = some s) : segsOk s ∧ ∃ i z, P.info? t = some i ∧ i.zero = some z ∧ ∀ ρ, FRep ρ (flat s) z.cells.toList := by
 unfold zeroSegs at h
 split at h <;> try (cases h; done)
 rename_i s' z hs hz
 split at h <;> try (cases h; done)
 rename_i hb
 simp only [Option.some.injEq] at h
 subst h
 simp only [Bool.and_eq_true] at hb
 cases hi : P.info? t with
 | none => rw [hi] at hz; simp at hz
 | some i =>
  rw [hi] at hz
  exact ⟨shapeB_sound hb.1, i, z, rfl, by simpa using hz, fun ρ => flatIs_sound ρ hb.2⟩
theorem foldl_put (off : Nat) : ∀ (us : List Value) (k : Nat) (cs : Array Value), let r := (us.zipIdx k).foldl (fun cs p => cs.setIfInBounds (off + p.2) p.1) cs
  r.size = cs.size ∧ (off + k + us.length ≤ cs.size → ∀ (j : Nat), r[j]? = if off + k ≤ j ∧ j < off + k + us.length then us[j - (off + k)]? else cs[j]?)
 | [], k, cs => by refine ⟨rfl, fun _ j => ?_⟩; simp; omega
 | u :: us, k, cs => by
  obtain ⟨h1, h2⟩ := foldl_put off us (k + 1) (cs.setIfInBounds (off + k) u)
  simp only [List.zipIdx_cons, List.foldl_cons]
  refine ⟨by rw [h1]; simp, fun hle j => ?_⟩
  simp only [List.length_cons] at hle
  rw [h2 (by simp; omega) j]
  by_cases ha : off + (k + 1) ≤ j ∧ j < off + (k + 1) + us.length
  ·rw [if_pos ha, if_pos (by simp; omega)]
   have : j - (off + k) = (j - (off + (k + 1))) + 1 := by omega
   rw [this]; simp
  ·rw [if_neg ha, Array.getElem?_setIfInBounds]
   by_cases hb : off + k = j
   ·subst hb
    rw [if_pos rfl, if_pos (by omega), if_pos (by simp)]; simp
   ·rw [if_neg hb, if_neg (by simp; omega)]
theorem AV.segs_sound {x : AV} {v : Value} {s : List Seg} (h : x.segs = some s) (hx : SRep ρ x v) : segsOk s ∧ FRep ρ (flat s) v.cells.toList := by
 cases x with
 | one a =>
  simp only [AV.segs, Option.some.injEq] at h
  subst h
  have h1 : v.cells = #[v] := by
   have := hx.one
   cases v <;> simp_all [Value.cells, Value.oneCell']
  refine ⟨⟨trivial, trivial⟩, ?_⟩
  rw [h1]
  refine ⟨rfl, fun j a' v' ha hv => ?_⟩
  cases j with
  | zero => simp [flat, Seg.flat] at ha hv; subst ha hv; exact hx
  | succ j => simp [flat, Seg.flat] at ha
 | agg s' =>
  simp only [AV.segs, Option.some.injEq] at h
  subst h
  obtain ⟨ho, cs, rfl, hf⟩ := hx
  exact ⟨ho, by simpa [Value.cells] using hf⟩
 | tup vs => simp [AV.segs] at h
 | undef => simp [AV.segs] at h
theorem fillx_sound {place : Nat → Option (Nat × Nat)} : ∀ {parts : List (Nat × AV)} {ps : List (Nat × Value)} {s : List Seg} {cells : Array Value} {K : List Seg → Prop}, fillx s place parts K → segsOk s → FRep ρ (flat s) cells.toList →
  parts.length = ps.length → (∀ (j : Nat) p q, parts[j]? = some p → ps[j]? = some q → p.1 = q.1 ∧ SRep ρ p.2 q.2) → ∃ s' cells', Instr.fill place cells ps = some cells' ∧ K s' ∧ segsOk s' ∧ FRep ρ (flat s') cells'.toList
 | [], [], s, cells, K, h, ho, hf, _, _ => ⟨s, cells, rfl, h, ho, hf⟩
 | [], _ :: _, _, _, _, _, _, _, hl, _ => by simp at hl
 | _ :: _, [], _, _, _, _, _, _, hl, _ => by simp at hl
 | (i, x) :: parts, (i', v) :: ps, s, cells, K, h, ho, hf, hl, hps => by
  obtain ⟨hi, hx⟩ := hps 0 _ _ rfl rfl
  simp only at hi hx
  subst hi
  have rest : ∀ (j : Nat) p q, parts[j]? = some p → ps[j]? = some q → p.1 = q.1 ∧ SRep ρ p.2 q.2 := fun j p q h1 h2 => hps (j + 1) p q (by simpa using h1) (by simpa using h2)
  have hl' : parts.length = ps.length := by simpa using hl
  simp only [fillx] at h
  split at h <;> try exact h.elim
  rename_i off size hp
  split at h <;> try exact h.elim
  rename_i base idx hloc
  have hsum := locate_sum hloc
  have step : ∀ {s1 : List Seg} {ys : List AC}, (∃ s0, x.segs = some s0 ∧ (flat s0).length = size) → fillx s1 place parts K → segsOk s1 → slen s1 = slen s → off + size ≤ slen s → (∀ (j : Nat) a u, ys[j]? = some a → v.cells.toList[j]? = some u → CRep ρ a u) →
    (∀ (j : Nat), (flat s1)[j]? = if off ≤ j ∧ j < off + size then ys[j - off]? else (flat s)[j]?) → ∃ s' cells', Instr.fill place cells ((i, v) :: ps) = some cells' ∧ K s' ∧ segsOk s' ∧ FRep ρ (flat s') cells'.toList := by
   intro s1 ys ⟨s0, hs0, hlen0⟩ hK ho1 hsl hfit hys hfl
   have hseg := AV.segs_sound hs0 hx
   have hvs : v.cells.size = size := by have := hseg.2.1; simp at this; omega
   have hcs : cells.size = slen s := by have := hf.1; rw [flat_length ho] at this; simpa using this.symm
   obtain ⟨g1, g2⟩ := foldl_put off v.cells.toList 0 cells
   have g2 := g2 (by simp; omega)
   have hfold : v.cells.zipIdx.foldl (fun cs (c, j) => cs.setIfInBounds (off + j) c) cells = (v.cells.toList.zipIdx 0).foldl (fun cs p => cs.setIfInBounds (off + p.2) p.1) cells := by
    rw [← Array.foldl_toList, Array.toList_zipIdx]
   have hput : FRep ρ (flat s1) ((v.cells.toList.zipIdx 0).foldl (fun cs p => cs.setIfInBounds (off + p.2) p.1) cells).toList := by
    refine FRep.put (off := off) (z := size) (ys := ys) (us := v.cells.toList) hf (by rw [flat_length ho1, flat_length ho, hsl]) (by simpa using g1) hys hfl (fun j => ?_)
    have := g2 j
    simp only [Array.getElem?_toList, Nat.add_zero, Array.length_toList, hvs] at this ⊢
    exact this
   obtain ⟨s', cells', e1, e2, e3, e4⟩ := fillx_sound hK ho1 hput hl' rest
   refine ⟨s', cells', ?_, e2, e3, e4⟩
   simp only [Instr.fill, hp]
   rw [if_neg (by simp [hvs]; omega), hfold]
   exact e1
  split at h
  ·rename_i a
   split at h <;> try exact h.elim
   obtain ⟨s1, hK, g1, g2, g3, a', ha', g4⟩ := storeOne_sound h ho
   have hb : base + idx = off := by omega
   rw [hb] at g3 g4
   refine step ⟨[.cells [a]], rfl, rfl⟩ hK g1 g2 (by omega) (ys := [a']) ?_ g4
   intro j b u h1 h2
   have hseg := AV.segs_sound (s := [.cells [a]]) rfl hx
   cases j with
   | zero => simp at h1; subst h1; exact ha' _ _ (hseg.2.2 0 a u (by simp [flat, Seg.flat]) h2)
   | succ j => simp at h1
  ·rename_i xs
   have hseg := AV.segs_sound (s := xs) rfl hx
   obtain ⟨s1, hK, g1, g2, g3, g5, g4⟩ := storePart_sound h ho hseg.1
   have hb : base + idx = off := by omega
   rw [hb] at g3 g4
   exact step ⟨xs, rfl, g5⟩ hK g1 g2 (by omega) (ys := flat xs) (fun j b u h1 h2 => hseg.2.2 j b u h1 h2) g4
  ·exact h.elim
end
section
variable {P : Program} {ρ : Rho} {σ : Mem} {w0 : World} {K : AV → Prop}
theorem fill_agg {place : Nat → Option (Nat × Nat)} {s : List Seg} {z : Value} {parts : List (Nat × AV)} {ps : List (Nat × Value)} (h : fillx s place parts fun s' => K (.agg s')) (ho : segsOk s) (hf : FRep ρ (flat s) z.cells.toList)
  (hl : parts.length = ps.length) (hps : ∀ (j : Nat) p q, parts[j]? = some p → ps[j]? = some q → p.1 = q.1 ∧ SRep ρ p.2 q.2) : ∃ s' cells', Instr.fill place z.cells ps = some cells' ∧ K (.agg s') ∧ SRep ρ (.agg s') (.agg cells') := by
 obtain ⟨s', cells', e1, e2, e3, e4⟩ := fillx_sound h ho hf hl hps
 exact ⟨s', cells', e1, e2, e3, cells'.toList, by simp, e4⟩
theorem buildx_sound {t : TypeId} {parts : List (Nat × AV)} {ps : Array (Nat × Value)} (h : buildx P t parts K) (hl : parts.length = ps.toList.length)
  (hps : ∀ (j : Nat) p q, parts[j]? = some p → ps.toList[j]? = some q → p.1 = q.1 ∧ SRep ρ p.2 q.2) : ∃ v av, (∀ w : World, (Instr.build t ps).run P w = .ok v w) ∧ SRep ρ av v ∧ K av := by
 unfold buildx at h
 split at h <;> try exact h.elim
 rename_i s hs
 obtain ⟨ho, it, z, hit, hz, hf⟩ := zeroSegs_sound hs
 split at h
 ·rename_i n e hu
  split at h <;> try exact h.elim
  rename_i ze hze
  obtain ⟨s', cells', e1, e2, e3⟩ := fill_agg h ho (hf ρ) hl hps
  refine ⟨_, .agg s', fun w => run_build w t ps cells' ?_, e3, e2⟩
  unfold sizeB at hze
  cases hie : P.info? e with
  | none => rw [hie] at hze; cases hze
  | some ie =>
   rw [hie] at hze
   simp only [Option.map_some, Option.some.injEq] at hze
   subst hze
   simp only [Program.built, hit, hu, hz, hie]
   exact e1
 ·rename_i fs hu
  split at h <;> try exact h.elim
  rename_i places hp
  obtain ⟨s', cells', e1, e2, e3⟩ := fill_agg h ho (hf ρ) hl hps
  refine ⟨_, .agg s', fun w => run_build w t ps cells' ?_, e3, e2⟩
  have hp' : fs.toList.mapM (fun f => (P.info? f.type).map fun i => (f.offset, i.size)) = some places := by
   rw [← hp]; congr 1; funext f; simp [sizeB, Option.map_map, Function.comp_def]
  simp only [Program.built, hit, hu, hz, hp']
  simpa using e1
 ·exact h.elim
theorem fieldx_sound {t : TypeId} {x : AV} {f : Nat} {v1 : Value} (h : fieldx P t x f K) (hx : SRep ρ x v1) : ∃ v av, (∀ w : World, (Instr.field t v1 f).run P w = .ok v w) ∧ SRep ρ av v ∧ K av := by
 unfold fieldx at h
 split at h <;> try exact h.elim
 rename_i s
 obtain ⟨ho, cs, rfl, hf⟩ := hx
 split at h <;> try exact h.elim
 rename_i fs hu
 split at h <;> try exact h.elim
 rename_i fd hfd
 split at h <;> try exact h.elim
 rename_i base idx hl
 have hsum : base + idx = fd.offset := by have := locate_sum hl; omega
 split at h
 ·rename_i z hag hz
  obtain ⟨k, l, hll, hfl, hK⟩ := partx_sound h ho
  have hp := part_agg (P := P) (e := fd.type) (cs := cs) (i := fd.offset) hag hz
  have e : (cs.drop fd.offset).take z = l.map (Value.int k) := by
   apply List.ext_getElem?
   intro j
   rw [List.getElem?_take]
   by_cases hj : j < z
   ·rw [if_pos hj, List.getElem?_drop]
    have h1 := hfl j hj
    rw [hsum] at h1
    have hlt : fd.offset + j < cs.length := by rw [← hf.1]; exact (List.getElem?_eq_some_iff.1 h1).1
    have h2 := hf.2 _ _ _ h1 (List.getElem?_eq_getElem hlt)
    rw [List.getElem?_eq_getElem hlt, show cs[fd.offset + j] = _ from h2]
    simp [show j < l.length by omega, List.getD]
   ·rw [if_neg hj, List.getElem?_eq_none (by simp only [List.length_map]; omega)]
  rw [e] at hp
  exact ⟨_, .agg [.ints k z l], by simp [Instr.field, run_underlying hu, hfd, asAgg, hp], ⟨⟨hll, trivial⟩, _, rfl, ints_FRep ρ k z l⟩, hK⟩
 ·rename_i z hag hz
  obtain ⟨a, ⟨v, hv, hr⟩, hK⟩ := onex_sound h ho (C := fun a j => ∃ v, cs[j]? = some v ∧ CRep ρ a v) (fun j a hj => by
   have hlt : j < cs.length := by rw [← hf.1]; exact (List.getElem?_eq_some_iff.1 hj).1
   exact ⟨_, List.getElem?_eq_getElem hlt, hf.2 _ _ _ hj (List.getElem?_eq_getElem hlt)⟩)
  rw [hsum] at hv
  exact ok1 (a := a) (by simp [Instr.field, run_underlying hu, hfd, asAgg, part_one hag hv]) hr hK
 ·exact h.elim
theorem minmax_sound {lo : Bool} {x y : AV} {v1 v2 : Value} (h : minmax lo x y K) (hx : SRep ρ x v1) (hy : SRep ρ y v2) (ty : TypeId) (tys : Array TypeId) :
  ∃ v av, (∀ w : World, ((if lo then Builtin.min_ tys ty #[v1, v2] else Builtin.max_ tys ty #[v1, v2])).run P w = .ok v w) ∧ SRep ρ av v ∧ K av := by
 unfold minmax at h
 split at h <;> try exact h.elim
 rename_i k a k' b
 cases (show v1 = _ from hx); cases (show v2 = _ from hy)
 split at h <;> try exact h.elim
 cases lo with
 | true => exact okI (by simp [Builtin.min_, Builtin.min2, imin]) h
 | false => exact okI (by simp [Builtin.max_, Builtin.max2, imax]) h
theorem funcx_sound {f : Fn} {first : List Operand} {capt : List AV} {cv : List Value} (h : funcx f first capt K) (hl : capt.length = cv.length) (hc : ∀ (j : Nat) x v, capt[j]? = some x → cv[j]? = some v → SRep ρ x v) :
  first = [] ∧ ∃ av, SRep ρ av (.func f #[] cv.toArray) ∧ K av := by
 unfold funcx at h
 split at h <;> try exact h.elim
 ·simp at hl
  have : cv = [] := by cases cv <;> simp_all
  subst this
  exact ⟨rfl, .one (.con (.func (.func _) #[] #[])), ⟨rfl, rfl⟩, h⟩
 ·rename_i g n b i
  match cv, hl with
  | [v], _ =>
   have := hc 0 _ v rfl rfl
   have e : v = _ := this
   subst e
   exact ⟨rfl, .one (.clo g n b i), rfl, h⟩
theorem pure_sound {o : Oper} {fr : Fr} {a : Act} (h : detx P o.op fr σ K) (hld : ∀ T x, o.op ≠ .load T x) (hm : MemRep ρ σ w0) (hfr : FrRep ρ fr a.tmps) (hg : Glob ρ) :
  ∃ v av, (∀ w : World, (execOp a.eval o).run P w = .ok (.value v) w) ∧ SRep ρ av v ∧ K av := by
 have E := fun x => ev_sound hg hfr x
 have lift : ∀ {m : Sem Value}, execOp a.eval o = (do pure (.value (← m))) → (∃ v av, (∀ w : World, m.run P w = .ok v w) ∧ SRep ρ av v ∧ K av) → ∃ v av, (∀ w : World, (execOp a.eval o).run P w = .ok (.value v) w) ∧ SRep ρ av v ∧ K av := by
  intro m hm ⟨v, av, h1, h2, h3⟩
  exact ⟨v, av, by rw [hm]; simp [h1], h2, h3⟩
 unfold detx at h
 split at h
 ·rename_i x ho; exact ⟨_, _, by simp [execOp, ho], E x, h⟩
 ·rename_i x ho; exact ⟨_, _, by simp [execOp, ho], E x, h⟩
 ·rename_i T x ho; exact absurd ho (hld T x)
 ·rename_i x ho; exact nilx_sound ho h (E x)
 ·rename_i op t x y yt ho
  exact lift (by simp [execOp, ho]) (binx_sound (X := x) (Y := y) h (E x) (E y))
 ·rename_i op t x ho
  exact lift (by simp [execOp, ho]) (unx_sound h (E x))
 ·rename_i s d x ho
  exact lift (by simp [execOp, ho]) (convx_sound h (E x))
 ·rename_i t x ho
  exact lift (by simp [execOp, ho]) (arrx_sound h hm (E x))
 ·rename_i t x lo hi mx ho
  refine lift (by simp [execOp, ho]) (slicez_sound (vl := lo.map a.eval) (vh := hi.map a.eval) (vm := mx.map a.eval) h hm (E x) ?_ ?_ ?_ ?_ ?_ ?_)
  ·intro y hy; cases lo <;> simp at hy; subst hy; exact ⟨_, rfl, E _⟩
  ·intro hy; cases lo <;> simp at hy; rfl
  ·intro y hy; cases hi <;> simp at hy; subst hy; exact ⟨_, rfl, E _⟩
  ·intro hy; cases hi <;> simp at hy; rfl
  ·intro y hy; cases mx <;> simp at hy; subst hy; exact ⟨_, rfl, E _⟩
  ·intro hy; cases mx <;> simp at hy; rfl
 ·rename_i f first capt ho
  obtain ⟨h1, av, h2, h3⟩ := funcx_sound (ρ := ρ) (cv := capt.toList.map a.eval) h (by simp) (by
   intro j x v h1 h2
   simp only [List.getElem?_map, Option.map_eq_some_iff] at h1 h2
   obtain ⟨p, hp, rfl⟩ := h1
   obtain ⟨q, hq, rfl⟩ := h2
   rw [hp] at hq; cases hq
   exact E p)
  have e1 : first = #[] := by rw [← Array.toArray_toList (xs := first), h1]
  have e2 : (capt.toList.map a.eval).toArray = capt.map a.eval := by simp [← Array.toList_map]
  rw [e2] at h2
  exact ⟨_, av, by subst e1; simp [execOp, ho, Instr.makeFunc], h2, h3⟩
 ·rename_i t x f ho
  exact lift (by simp [execOp, ho]) (fieldAddrx_sound h (E x))
 ·rename_i t x f ho
  exact lift (by simp [execOp, ho]) (fieldx_sound h (E x))
 ·rename_i t x i ho
  exact lift (by simp [execOp, ho]) (indexAddrx_sound h hm (E x) (E i))
 ·rename_i t x i ho
  exact lift (by simp [execOp, ho]) (indexx_sound h (E x) (E i))
 ·rename_i x i ho
  exact lift (by simp [execOp, ho]) (extractx_sound h (E x))
 ·rename_i t ps ho
  refine lift (by simp [execOp, ho]) (buildx_sound (ps := ps.map fun (i, x) => (i, a.eval x)) h (by simp) ?_)
  intro j p q h1 h2
  simp only [List.getElem?_map, Option.map_eq_some_iff, Array.toList_map] at h1 h2
  obtain ⟨p', e1, rfl⟩ := h1
  obtain ⟨q', e2, rfl⟩ := h2
  rw [e1] at e2; cases e2
  exact ⟨rfl, E _⟩
 ·rename_i args argTypes ho
  split at h <;> try exact h.elim
  rename_i x t hx ht
  have ea : args = #[x] := by rw [← Array.toArray_toList (xs := args), hx]
  have et : argTypes = #[t] := by rw [← Array.toArray_toList (xs := argTypes), ht]
  subst ea et
  obtain ⟨v, av, h1, h2, h3⟩ := lenx_sound h hm (E x) o.type
  exact ⟨v, av, by simp [execOp, ho, resolve, invoke, builtin, h1], h2, h3⟩
 ·rename_i args argTypes ho
  split at h <;> try exact h.elim
  rename_i x y hxy
  have ea : args = #[x, y] := by rw [← Array.toArray_toList (xs := args), hxy]
  subst ea
  obtain ⟨v, av, h1, h2, h3⟩ := minmax_sound (P := P) h (E x) (E y) o.type argTypes
  exact ⟨v, av, fun w => by have := h1 w; simp only [if_true] at this; simp [execOp, ho, resolve, invoke, builtin, this], h2, h3⟩
 ·rename_i args argTypes ho
  split at h <;> try exact h.elim
  rename_i x y hxy
  have ea : args = #[x, y] := by rw [← Array.toArray_toList (xs := args), hxy]
  subst ea
  obtain ⟨v, av, h1, h2, h3⟩ := minmax_sound (P := P) h (E x) (E y) o.type argTypes
  exact ⟨v, av, fun w => by have := h1 w; simp only [Bool.false_eq_true, if_false] at this; simp [execOp, ho, resolve, invoke, builtin, this], h2, h3⟩
 ·exact h.elim
theorem load_sound {o : Oper} {fr : Fr} {a : Act} {T : TypeId} {x : Operand} (h : detx P o.op fr σ K) (ho : o.op = .load T x) (hm : MemRep ρ σ w0) (hfr : FrRep ρ fr a.tmps) (hg : Glob ρ) :
  ∃ v av n bk, addrName (ev fr x) = some n ∧ Mem.find σ n = some bk ∧ (∀ w' : World, (∀ k, Foot ρ n bk k → w'.heap[k]? = w0.heap[k]?) → (execOp a.eval o).run P w' = .ok (.value v) w') ∧ SRep ρ av v ∧ K av := by
 have E := ev_sound hg hfr x
 rw [ho] at h
 simp only [detx] at h
 split at h <;> try exact h.elim
 ·rename_i n base idx hx
  rw [hx] at E
  have hv : a.eval x = .pointer (some (at_ ρ n (base + idx))) := E
  obtain ⟨v, av, bk, h1, h2, h3, h4⟩ := loadx_sound h hm
  exact ⟨v, av, n, bk, by rw [hx]; rfl, h1, fun w' hw => by simp [execOp, ho, Instr.loadAt, hv, Instr.sureAddr, h2 w' hw], h3, h4⟩
 ·rename_i n z i b j hx
  rw [hx] at E
  obtain ⟨v, av, bk, h1, h2, h3, h4⟩ := loadV_sound h hm E
  exact ⟨v, av, n, bk, by rw [hx]; rfl, h1, fun w' hw => by simp [execOp, ho, h2 w' hw], h3, h4⟩
 ·rename_i n c i o' hx
  rw [hx] at E
  obtain ⟨v, av, bk, h1, h2, h3, h4⟩ := loadE_sound h hm E
  exact ⟨v, av, n, bk, by rw [hx]; rfl, h1, fun w' hw => by simp [execOp, ho, h2 w' hw], h3, h4⟩
 ·rename_i k j i hx
  rw [hx] at E
  obtain ⟨v, av, bk, h1, h2, h3, h4⟩ := loadH_sound h hm E
  exact ⟨v, av, hname k, bk, by rw [hx]; rfl, h1, fun w' hw => by simp [execOp, ho, h2 w' hw], h3, h4⟩
end
structure Keeps (ex : Nat → Prop) (w0 w : World) : Prop where
 os : w.os = w0.os
 tape : w.tape = w0.tape
 output : w.output = w0.output
 size : w0.heap.size ≤ w.heap.size
 block : ∀ k, k < w0.heap.size → ¬ ex k → w.heap[k]? = w0.heap[k]?
theorem Keeps.refl (ex : Nat → Prop) (w : World) : Keeps ex w w := ⟨rfl, rfl, rfl, Nat.le_refl _, fun _ _ _ => rfl⟩
theorem Keeps.trans {ex ex' : Nat → Prop} {a b c : World} (h : Keeps ex a b) (k : Keeps ex' b c) (he : ∀ i, i < a.heap.size → ex' i → ex i) : Keeps ex a c :=
 ⟨k.os.trans h.os, k.tape.trans h.tape, k.output.trans h.output, Nat.le_trans h.size k.size, fun i hi hx => (k.block i (Nat.lt_of_lt_of_le hi h.size) (fun q => hx (he i hi q))).trans (h.block i hi hx)⟩
theorem Keeps.below {w0 w : World} (h : Keeps (fun _ => False) w0 w) : Go.RowKit.Below w0.heap.size w0 w := ⟨h.os, h.tape, h.output, h.size, fun k hk => h.block k hk (fun q => q)⟩
structure Env where
 w0 : World
 ρ0 : Rho
 ex : Nat → Prop
 glob : Glob ρ0
structure Rep (E : Env) (ρ : Rho) (fr : Fr) (σ : Mem) (a : Act) (w : World) : Prop where
 fr : FrRep ρ fr a.tmps
 df : a.defers = []
 mem : MemRep ρ σ w
 sep : Sep ρ σ
 fix : ∀ n, 200000 ≤ n → isHeap n = false → ρ n = E.ρ0 n
 ext : ∀ n, isHeap n = true → HExt (E.ρ0 n) (ρ n)
 own : ∀ n b k, Mem.find σ n = some b → Out ρ n b k → E.w0.heap.size ≤ k ∨ E.ex k
 keep : Keeps E.ex E.w0 w
theorem isHeap_le {n : Nat} (h : isHeap n = true) : 900000 ≤ n ∧ n < 1000000 := by
 simp only [isHeap, Bool.and_eq_true] at h
 exact ⟨Nat.le_of_ble_eq_true h.1, Nat.lt_of_lt_of_le (Nat.lt_succ_self _) (Nat.le_of_ble_eq_true h.2)⟩
theorem isHeap_no {n : Nat} (h : n < 900000 ∨ 1000000 ≤ n) : isHeap n = false := by
 cases hq : isHeap n with
 | false => rfl
 | true => have := isHeap_le hq; omega
theorem isHeap_gname (g : Nat) : isHeap (gname g) = false := isHeap_no (by simp only [gname]; omega)
theorem isHeap_hname (k : IntKind) : isHeap (hname k) = true := by cases k <;> rfl
theorem Rep.glob {E : Env} {ρ : Rho} {fr : Fr} {σ : Mem} {a : Act} {w : World} (h : Rep E ρ fr σ a w) : Glob ρ := fun g => by
 rw [h.fix _ (by simp only [gname]; omega) (isHeap_gname g)]; exact E.glob g
section
variable {ρ ρ' : Rho}
theorem at_ext {n i : Nat} (h : HExt (ρ n) (ρ' n)) : at_ ρ' n i = at_ ρ n i := by simp only [at_, h.b, h.o]
theorem CRep.agree {a : AC} {v : Value} (hr : ∀ n, a.refs n = true → HExt (ρ n) (ρ' n)) (h : CRep ρ a v) : CRep ρ' a v := by
 cases a with
 | ptr n b i => have e := hr n (by simp [AC.refs]); simp only [CRep, at_ext e] at h ⊢; exact h
 | sl n b i l c => have e := hr n (by simp [AC.refs]); simp only [CRep, at_ext e] at h ⊢; exact h
 | clo f n b i => have e := hr n (by simp [AC.refs]); simp only [CRep, at_ext e] at h ⊢; exact h
 | vec n => have e := hr n (by simp [AC.refs]); simp only [CRep, e.a, e.len, e.cap] at h ⊢; exact h
 | vsl n z i l => have e := hr n (by simp [AC.refs]); simp only [CRep, Loc.at, e.a, e.len, e.cap, e.b, e.o] at h ⊢; exact h
 | vcl n z i l => have e := hr n (by simp [AC.refs]); simp only [CRep, Loc.at, e.a, e.len, e.cap, e.b, e.o] at h ⊢; exact h
 | vptr n z i b j => have e := hr n (by simp [AC.refs]); simp only [CRep, at_ext e, e.len] at h ⊢; exact h
 | el n c i =>
  have e := hr n (by simp [AC.refs])
  obtain ⟨h1, h2⟩ := h
  exact ⟨by rw [e.inn c i h2]; exact h1, by rw [e.len]; exact h2⟩
 | esl n c i o l =>
  have e := hr n (by simp [AC.refs])
  obtain ⟨A, cap, h1, h2, h3, h4, h5, h6⟩ := h
  exact ⟨A, cap, h1, h2, by rw [e.inn c i h4]; exact h3, by rw [e.len]; exact h4, by rw [e.inn c i h4]; exact h5, by rw [e.inn c i h4]; exact h6⟩
 | eptr n c i o =>
  have e := hr n (by simp [AC.refs])
  obtain ⟨A, h1, h2, h3, h4⟩ := h
  exact ⟨A, by rw [e.inn c i h4]; exact h1, h2, by rw [e.inn c i h4]; exact h3, by rw [e.len]; exact h4⟩
 | hs k j off l =>
  have e := hr (hname k) (by simp [AC.refs])
  obtain ⟨A, cap, h1, h2, h3, h4, h5, h6, h7⟩ := h
  obtain ⟨e1, e2, e3⟩ := e.el j h4
  exact ⟨A, cap, h1, h2, by omega, Nat.lt_of_lt_of_le h4 e.n, by rw [e1]; exact h5, by rw [e2]; exact h6, by rw [e1, e2]; exact h7⟩
 | hp k j i =>
  have e := hr (hname k) (by simp [AC.refs])
  obtain ⟨A, h1, h2, h3, h4⟩ := h
  obtain ⟨e1, e2, e3⟩ := e.el j h4
  exact ⟨A, by rw [e1]; exact h1, h2, by omega, Nat.lt_of_lt_of_le h4 e.n⟩
 | map n => have e := hr n (by simp [AC.refs]); simp only [CRep, e.b] at h ⊢; exact h
 | int k n => exact h
 | lit b => exact h
 | bool b => exact h
 | str s => exact h
 | con v => exact h
 | any => exact h
theorem FRep.agree {l : List AC} {c : List Value} (hr : ∀ n, l.any (AC.refs n) = true → HExt (ρ n) (ρ' n)) (h : FRep ρ l c) : FRep ρ' l c :=
 ⟨h.1, fun j a v ha hv => (h.2 j a v ha hv).agree fun n hn => hr n (List.any_eq_true.2 ⟨a, List.mem_of_getElem? ha, hn⟩)⟩
theorem flat_refs {d : Nat} : ∀ {s : List Seg}, segsRefs d s = false → (flat s).any (AC.refs d) = false
 | [], _ => rfl
 | x :: r, h => by
  simp only [segsRefs, List.any_cons, Bool.or_eq_false_iff] at h
  have h2 := flat_refs (s := r) h.2
  simp only [flat, List.any_append, h2, Bool.or_false]
  cases x <;> simp_all [Seg.flat, Seg.refs, AC.refs]
theorem flat_refs' {d : Nat} {s : List Seg} (h : (flat s).any (AC.refs d) = true) : segsRefs d s = true := by
 cases hq : segsRefs d s with
 | true => rfl
 | false => rw [flat_refs hq] at h; cases h
theorem SRep.agree {x : AV} {v : Value} (hr : ∀ n, x.refs n = true → HExt (ρ n) (ρ' n)) (h : SRep ρ x v) : SRep ρ' x v := by
 cases x with
 | one a => exact CRep.agree hr h
 | agg s =>
  obtain ⟨ho, cs, e, hf⟩ := h
  exact ⟨ho, cs, e, hf.agree fun n hn => hr n (flat_refs' hn)⟩
 | tup vs =>
  obtain ⟨us, e, hl, hall⟩ := h
  refine ⟨us, e, hl, fun j t u ht hu => ?_⟩
  have := hall j t u ht hu
  have hm : ∀ n, t.refs n = true → HExt (ρ n) (ρ' n) := fun n hn => hr n (List.any_eq_true.2 ⟨t, List.mem_of_getElem? ht, hn⟩)
  cases t with
  | c a => exact CRep.agree hm this
  | g s => obtain ⟨ho, cs, e, hf⟩ := this; exact ⟨ho, cs, e, hf.agree fun n hn => hm n (flat_refs' hn)⟩
 | undef => trivial
theorem Fr.get_mem : ∀ {fr : Fr} {t : Nat}, t < fr.length → Fr.get fr t ∈ fr
 | [], _, h => by simp at h
 | x :: r, 0, _ => by simp [Fr.get]
 | x :: r, t + 1, h => by simp only [Fr.get]; exact List.mem_cons_of_mem _ (Fr.get_mem (by simpa using h))
theorem FrRep.agree {fr : Fr} {tmps : Array Value} (hr : ∀ n, frRefs n fr = true → HExt (ρ n) (ρ' n)) (h : FrRep ρ fr tmps) : FrRep ρ' fr tmps := by
 refine ⟨h.1, fun t v hv => (h.2 t v hv).agree fun n hn => hr n ?_⟩
 have ht : t < fr.length := by rw [h.1]; exact (Array.getElem?_eq_some_iff.1 hv).1
 exact List.any_eq_true.2 ⟨_, Fr.get_mem ht, hn⟩
theorem Lnk.agree {L : Loc} {cs : List Col} (hr : ∀ m, cs.any (Col.refs m) = true → HExt (ρ m) (ρ' m)) (h : Lnk ρ L cs) : Lnk ρ' L cs := fun c k l hc i d hd =>
 (h c k l hc i d hd).agree fun n hn => hr n (List.any_eq_true.2 ⟨_, List.mem_of_getElem? hc, hn⟩)
theorem BlkRep.agree {w : World} {n : Nat} {b : Blk} (hn : ρ' n = ρ n) (hr : ∀ m, b.refs m = true → HExt (ρ m) (ρ' m)) (h : BlkRep ρ w n b) : BlkRep ρ' w n b := by
 cases b with
 | own T s =>
  obtain ⟨ho, hz, c, fz, hh, hf, hfz⟩ := h
  exact ⟨ho, by rw [hn]; exact hz, c, fz, by rw [hn]; exact hh, hf.agree fun m hm => hr m (flat_refs' hm), hfz⟩
 | view s =>
  refine ⟨h.1, fun j a ha => ?_⟩
  obtain ⟨v, hv, hc⟩ := h.2 j a ha
  refine ⟨v, by simp only [at_, hn]; exact hv, hc.agree fun m hm => hr m (flat_refs' (List.any_eq_true.2 ⟨a, List.mem_of_getElem? ha, hm⟩))⟩
 | vec cs => obtain ⟨h1, h2, h3⟩ := h; exact ⟨by rw [hn]; exact h1, by rw [hn]; exact h2, by rw [hn]; exact h3.agree hr⟩
 | rview cs => obtain ⟨h1, h3⟩ := h; exact ⟨by rw [hn]; exact h1, by rw [hn]; exact h3.agree hr⟩
 | heap k os => simp only [BlkRep, hn] at h ⊢; exact h
 | map kk ms =>
  obtain ⟨es, clock, q1, q2⟩ := h
  refine ⟨es, clock, by rw [hn]; exact q1, ?_, q2.2⟩
  have q2 := q2.1
  cases ms with
  | ints k l => exact q2
  | strs l => exact q2
  | hss k l => exact ⟨q2.len, fun i p e hp he => ⟨(q2.at_ i p e hp he).1, (q2.at_ i p e hp he).2.agree fun m hm => hr m hm⟩⟩
theorem Foot.agree {n k : Nat} {b : Blk} (hn : ρ' n = ρ n) : Foot ρ' n b k ↔ Foot ρ n b k := by
 cases b <;> simp only [Foot, hn]
theorem Out.agree {n k : Nat} {b : Blk} (hn : ρ' n = ρ n) : Out ρ' n b k ↔ Out ρ n b k := by
 cases b <;> simp only [Out, hn]
theorem Inn.agree {n k : Nat} {b : Blk} (hn : ρ' n = ρ n) : Inn ρ' n b k ↔ Inn ρ n b k := by
 cases b <;> simp only [Inn, hn]
end
def upd (ρ : Rho) (d : Nat) (p : Loc) : Rho := fun n => if n = d then p else ρ n
theorem upd_eq (ρ : Rho) (d : Nat) (p : Loc) : upd ρ d p d = p := by simp [upd]
theorem upd_ne {ρ : Rho} {d n : Nat} {p : Loc} (h : n ≠ d) : upd ρ d p n = ρ n := by simp [upd, h]
section
variable {ρ : Rho} {d : Nat} {p : Loc}
theorem ne_of_refs {f : Nat → Bool} (hr : f d = false) : ∀ n, f n = true → HExt (ρ n) (upd ρ d p n) := fun n hn => .of_eq (upd_ne fun e => by subst e; rw [hr] at hn; cases hn)
theorem SRep.upd {x : AV} {v : Value} (hr : x.refs d = false) (h : SRep ρ x v) : SRep (upd ρ d p) x v := h.agree (ne_of_refs (f := fun n => x.refs n) hr)
theorem FRep.upd {l : List AC} {c : List Value} (hr : l.any (AC.refs d) = false) (h : FRep ρ l c) : FRep (upd ρ d p) l c := h.agree (ne_of_refs (f := fun n => l.any (AC.refs n)) hr)
theorem FrRep.upd {fr : Fr} {tmps : Array Value} (hr : frRefs d fr = false) (h : FrRep ρ fr tmps) : FrRep (upd ρ d p) fr tmps := h.agree (ne_of_refs (f := fun n => frRefs n fr) hr)
theorem BlkRep.upd {w : World} {n : Nat} {b : Blk} (hn : n ≠ d) (hr : b.refs d = false) (h : BlkRep ρ w n b) : BlkRep (upd ρ d p) w n b := h.agree (upd_ne hn) (ne_of_refs (f := fun m => b.refs m) hr)
end
theorem find_mem : ∀ {σ : Mem} {n : Nat} {b : Blk}, Mem.find σ n = some b → (n, b) ∈ σ
 | [], _, _, h => by simp [Mem.find] at h
 | (m, x) :: r, n, b, h => by
  simp only [Mem.find] at h
  split at h
  ·rename_i e; subst e; cases h; simp
  ·exact List.mem_cons_of_mem _ (find_mem h)
theorem memRefs_out {d : Nat} {σ : Mem} (h : memRefs d σ = false) {n : Nat} {b : Blk} (hf : Mem.find σ n = some b) : n ≠ d ∧ b.refs d = false := by
 simp only [memRefs, List.any_eq_false] at h
 have := h _ (find_mem hf)
 simpa using this
theorem block_lt {w : World} {k : Nat} {o : Obj} (h : w.heap[k]? = some o) : k < w.heap.size := (Array.getElem?_eq_some_iff.1 h).1
theorem cell_lt {w : World} {a : Addr} {v : Value} (h : w.cell? a = some v) : a.block < w.heap.size := by
 unfold World.cell? at h
 split at h
 ·rename_i hb; exact block_lt hb
 ·cases h
theorem inner_lt {w : World} {L : Loc} {cs : List Col} {k : Nat} (h : VRep w L cs) (hk : Inner L cs k) : k < w.heap.size := by
 obtain ⟨c, kk, ll, i, l, a, h1, h2, h3, h4, rfl⟩ := hk
 obtain ⟨_, _, _, h5⟩ := h.inner c kk ll h1 i l h2
 obtain ⟨x, hx⟩ : ∃ x, l[0]? = some x := by cases l with | nil => exact absurd rfl h3 | cons x _ => exact ⟨x, rfl⟩
 have := cell_lt (h5 0 x hx a h4)
 simpa [Addr.add] using this
theorem footL_lt {w : World} {L : Loc} {cs : List Col} {k : Nat} (h : VRep w L cs) (hk : FootL L cs k) : k < w.heap.size := by
 rcases hk with ⟨h1, rfl⟩ | hk
 ·exact cell_lt (h.cells 0 (by omega) 0 h.wid)
 ·exact inner_lt h hk
theorem in_range {ρ : Rho} {w : World} {n k : Nat} {b : Blk} (h : BlkRep ρ w n b) (hk : Foot ρ n b k) : k < w.heap.size := by
 cases b with
 | own T s => obtain ⟨_, _, c, fz, hh, _⟩ := h; cases hk; exact block_lt hh
 | view s =>
  obtain ⟨hne, rfl⟩ := hk
  obtain ⟨v, hv, _⟩ := h.2 0 ((flat s)[0]'(by cases hq : flat s with | nil => exact absurd hq hne | cons => simp)) (by simp)
  exact cell_lt hv
 | vec cs =>
  rcases hk with ⟨h1, rfl⟩ | hk
  ·obtain ⟨_, c, T, fz, hh, _⟩ := h.2.1 h1; exact block_lt hh
  ·exact inner_lt h.1 hk
 | rview cs => exact footL_lt h.1 hk
 | map kk ms => obtain ⟨es, clock, q1, _⟩ := h; cases hk; exact block_lt q1
 | heap q os =>
  obtain ⟨j, h1, h2, rfl⟩ := hk
  obtain ⟨g1, g2⟩ := h.2.obj j _ (List.getElem?_eq_getElem (by rw [← h.2.n]; exact h1))
  obtain ⟨_, c, T, fz, hh, _⟩ := g2 (by rw [(Elt.loc_facts _).2.2]; exact h2)
  exact block_lt hh
theorem BlkRep.keeps {ρ : Rho} {w w' : World} {n : Nat} {b : Blk} (h : BlkRep ρ w n b) (hk : ∀ k, Foot ρ n b k → w'.heap[k]? = w.heap[k]?) : BlkRep ρ w' n b := by
 cases b with
 | own T s =>
  obtain ⟨ho, hz, c, fz, hh, hf, hfz⟩ := h
  exact ⟨ho, hz, c, fz, by rw [hk _ rfl]; exact hh, hf, hfz⟩
 | view s =>
  refine ⟨h.1, fun j a ha => ?_⟩
  obtain ⟨v, hv, hc⟩ := h.2 j a ha
  refine ⟨v, ?_, hc⟩
  rw [← hv]
  exact cell_block (hk _ ⟨fun e => by rw [e] at ha; simp at ha, rfl⟩)
 | vec cs =>
  refine ⟨h.1.keeps fun k hq => hk k ?_, fun h0 => ?_, h.2.2⟩
  ·rcases hq with ⟨h1, h2⟩ | hq
   ·exact Or.inl ⟨by have := h.1.cap; omega, h2⟩
   ·exact Or.inr hq
  ·obtain ⟨h1, c, T, fz, h2, h3⟩ := h.2.1 h0
   exact ⟨h1, c, T, fz, by rw [hk _ (Or.inl ⟨h0, rfl⟩)]; exact h2, h3⟩
 | rview cs => exact ⟨VRep.keeps h.1 hk, h.2⟩
 | map kk ms =>
  obtain ⟨es, clock, q1, q2⟩ := h
  exact ⟨es, clock, by rw [hk _ rfl]; exact q1, q2⟩
 | heap q os =>
  obtain ⟨h0, hH⟩ := h
  have same : ∀ j, j < os.length → (((ρ n).el 0 j).cap ≠ 0) → w'.heap[((ρ n).el 0 j).loc.1]? = w.heap[((ρ n).el 0 j).loc.1]? := fun j hj hc => hk _ ⟨j, by rw [hH.n]; exact hj, hc, rfl⟩
  refine ⟨h0, hH.len0, hH.n, hH.pos, hH.zero, fun j l hl => ?_, hH.apart⟩
  have hj : j < os.length := (List.getElem?_eq_some_iff.1 hl).1
  obtain ⟨g1, g2⟩ := hH.obj j l hl
  obtain ⟨f1, f2, f3⟩ := Elt.loc_facts ((ρ n).el 0 j)
  refine ⟨g1.keeps fun k hq => ?_, fun hc => ?_⟩
  ·rcases hq with ⟨q1, rfl⟩ | ⟨c, kk, ll, i', l', a', hc, _⟩
   ·exact same j hj (by have := g1.cap; rw [f2, f3] at this; rw [f2] at q1; omega)
   ·cases c <;> simp at hc
  ·obtain ⟨h1, c, T, fz, h2, h3⟩ := g2 hc
   exact ⟨h1, c, T, fz, by rw [same j hj (by rw [← f3]; exact hc)]; exact h2, h3⟩
theorem MemRep.keeps {ρ : Rho} {σ : Mem} {w w' : World} (h : MemRep ρ σ w) (hk : ∀ n b k, Mem.find σ n = some b → Foot ρ n b k → w'.heap[k]? = w.heap[k]?) : MemRep ρ σ w' :=
 fun n b hb => (h n b hb).keeps fun k hf => hk n b k hb hf
theorem Out.foot {ρ : Rho} {n k : Nat} {b : Blk} (h : Out ρ n b k) : Foot ρ n b k := by
 cases b <;> simp only [Out] at h <;> first | exact h.elim | exact h | exact Or.inl h
theorem add_sound {E : Env} {ρ : Rho} {fr : Fr} {σ : Mem} {a : Act} {w w' : World} {d : Nat} {L : Loc} {b : Blk} (h : Rep E ρ fr σ a w) (hd : freshB d fr σ = true) (hkeep : Keeps E.ex E.w0 w')
  (hsame : ∀ m c k, Mem.find σ m = some c → Foot ρ m c k → w'.heap[k]? = w.heap[k]?) (hb : BlkRep (upd ρ d L) w' d b)
  (ho : ∀ k, Out (upd ρ d L) d b k → (E.w0.heap.size ≤ k ∨ E.ex k) ∧ (∀ m c, Mem.find σ m = some c → ¬ Foot ρ m c k) ∧ ¬ Inn (upd ρ d L) d b k) (hf : ∀ k, Foot (upd ρ d L) d b k → Clean ρ σ k) :
  Rep E (upd ρ d L) fr ((d, b) :: σ) a w' := by
 simp only [freshB, Bool.and_eq_true, Bool.not_eq_true', decide_eq_true_eq] at hd
 obtain ⟨⟨hd1, hd2⟩, hd3⟩ := hd
 have un : ∀ {n b'}, Mem.find ((d, b) :: σ) n = some b' → (n = d ∧ b' = b) ∨ (n ≠ d ∧ Mem.find σ n = some b' ∧ b'.refs d = false) := by
  intro n b' hn
  simp only [Mem.find] at hn
  split at hn
  ·rename_i e; cases hn; exact Or.inl ⟨e.symm, rfl⟩
  ·obtain ⟨h1, h2⟩ := memRefs_out hd3 hn; exact Or.inr ⟨h1, hn, h2⟩
 refine ⟨h.fr.upd hd2, h.df, ?_, ⟨?_, ?_⟩, fun n hn hh => by rw [← h.fix n hn hh]; exact upd_ne (by omega), fun n hn => (h.ext n hn).trans (.of_eq (upd_ne (by have := isHeap_le hn; omega))), ?_, hkeep⟩
 ·intro n b' hn
  rcases un hn with ⟨rfl, rfl⟩ | ⟨h1, h2, h3⟩
  ·exact hb
  ·exact BlkRep.upd h1 h3 ((h.mem n b' h2).keeps fun k hk => hsame n b' k h2 hk)
 ·intro n m b1 c1 k hn hm hnm hO hF
  rcases un hn with ⟨rfl, rfl⟩ | ⟨h1, h2, h3⟩
  ·rcases un hm with ⟨rfl, rfl⟩ | ⟨g1, g2, g3⟩
   ·exact hnm rfl
   ·exact (ho k hO).2.1 m c1 g2 ((Foot.agree (upd_ne g1)).1 hF)
  ·rcases un hm with ⟨rfl, rfl⟩ | ⟨g1, g2, g3⟩
   ·exact hf k hF n b1 h2 ((Out.agree (upd_ne h1)).1 hO)
   ·exact h.sep.1 n m b1 c1 k h2 g2 hnm ((Out.agree (upd_ne h1)).1 hO) ((Foot.agree (upd_ne g1)).1 hF)
 ·intro n b1 k hn hO
  rcases un hn with ⟨rfl, rfl⟩ | ⟨h1, h2, h3⟩
  ·exact (ho k hO).2.2
  ·exact fun hI => h.sep.2 n b1 k h2 ((Out.agree (upd_ne h1)).1 hO) ((Inn.agree (upd_ne h1)).1 hI)
 ·intro n b1 k hn hO
  rcases un hn with ⟨rfl, rfl⟩ | ⟨h1, h2, h3⟩
  ·exact (ho k hO).1
  ·exact h.own n b1 k h2 ((Out.agree (upd_ne h1)).1 hO)
def World.with (w : World) (o : Obj) : World := { w with heap := w.heap.push o }
theorem with_old {w : World} {o : Obj} {k : Nat} (h : k < w.heap.size) : (World.with w o).heap[k]? = w.heap[k]? := by
 show (w.heap.push o)[k]? = _
 rw [Array.getElem?_push, if_neg (by omega)]
theorem with_new {w : World} {o : Obj} : (World.with w o).heap[w.heap.size]? = some o := by
 show (w.heap.push o)[w.heap.size]? = _
 simp
theorem with_size {w : World} {o : Obj} : (World.with w o).heap.size = w.heap.size + 1 := by
 show (w.heap.push o).size = _
 simp
def newLoc (b : Nat) : Loc := ⟨b, 0, none, 0, 0, fun _ _ => ⟨none, 0, 0⟩⟩
theorem new_sound {E : Env} {ρ : Rho} {fr : Fr} {σ : Mem} {a : Act} {w : World} (h : Rep E ρ fr σ a w) {d : Nat} {T : TypeId} {s : List Seg} {c : List Value} (hd : freshB d fr σ = true) (ho : segsOk s) (hs : segsRefs d s = false) (hf : FRep ρ (flat s) c) :
  Rep E (upd ρ d (newLoc w.heap.size)) fr ((d, .own T s) :: σ) a (World.with w (.cells c.toArray T)) := by
 have hlt : ∀ {m c k}, Mem.find σ m = some c → Foot ρ m c k → k < w.heap.size := fun hm hk => in_range (h.mem _ _ hm) hk
 refine add_sound h hd ⟨h.keep.os, h.keep.tape, h.keep.output, by rw [with_size]; have := h.keep.size; omega, fun k hk hx => by rw [with_old (by have := h.keep.size; omega)]; exact h.keep.block k hk hx⟩ (fun m c k hm hk => with_old (hlt hm hk))
  ⟨ho, by rw [upd_eq]; rfl, c, (0, 0), by rw [upd_eq]; exact with_new, hf.upd (flat_refs hs), fun j _ => by simp⟩ (fun k hk => ?_) (fun k hk m c hm hO => ?_)
 ·have e : k = w.heap.size := by have : k = (upd ρ d (newLoc w.heap.size) d).1 := hk; rw [upd_eq] at this; exact this
  subst e
  exact ⟨Or.inl h.keep.size, fun m c hm hk => by have := hlt hm hk; omega, fun q => q⟩
 ·have e : k = w.heap.size := by have : k = (upd ρ d (newLoc w.heap.size) d).1 := hk; rw [upd_eq] at this; exact this
  subst e
  have := hlt hm hO.foot
  omega
theorem find_erase : ∀ {σ : Mem} {n m : Nat}, Mem.find (σ.erase n) m = if m = n then none else Mem.find σ m
 | [], n, m => by simp [Mem.erase, Mem.find]
 | (q, x) :: r, n, m => by
  have ih := find_erase (σ := r) (n := n) (m := m)
  unfold Mem.erase at ih ⊢
  by_cases hq : q = n
  ·subst hq
   rw [List.filter_cons_of_neg (by simp)]
   rw [ih]
   simp only [Mem.find]
   by_cases hm : m = q
   ·subst hm; simp
   ·rw [if_neg hm, if_neg hm, if_neg (Ne.symm hm)]
  ·rw [List.filter_cons_of_pos (by simp [hq])]
   simp only [Mem.find]
   rw [ih]
   by_cases hm : q = m
   ·subst hm; simp [hq]
   ·rw [if_neg hm, if_neg hm]
theorem Rep.less {E : Env} {ρ : Rho} {fr fr' : Fr} {σ σ' : Mem} {a : Act} {w : World} (h : Rep E ρ fr σ a w) (hf : FrRep ρ fr' a.tmps) (hσ : ∀ n b, Mem.find σ' n = some b → Mem.find σ n = some b) : Rep E ρ fr' σ' a w :=
 ⟨hf, h.df, fun n b hb => h.mem n b (hσ n b hb), ⟨fun n m b c k hn hm => h.sep.1 n m b c k (hσ _ _ hn) (hσ _ _ hm), fun n b k hn => h.sep.2 n b k (hσ _ _ hn)⟩, h.fix, h.ext, fun n b k hn => h.own n b k (hσ _ _ hn), h.keep⟩
theorem Rep.erase {E : Env} {ρ : Rho} {fr : Fr} {σ : Mem} {a : Act} {w : World} (h : Rep E ρ fr σ a w) (n : Nat) : Rep E ρ fr (σ.erase n) a w :=
 h.less h.fr fun m b hb => by rw [find_erase] at hb; split at hb <;> first | exact hb | cases hb
theorem heap_setCell_at {w : World} {g o : Nat} {cur : List Value} {t : TypeId} {fz : Nat × Nat} {v : Value} (hg : w.heap[g]? = some (.cells cur.toArray t fz)) :
  (w.setCell ⟨g, o, none⟩ v).heap[g]? = some (.cells (cur.set o v).toArray t fz) := by
 simp [World.setCell, Array.getElem?_modify, hg]
theorem store_cells (P : Program) {g o : Nat} {t : TypeId} {fz : Nat × Nat} : ∀ (vs : List Value) (i : Nat) (cur : List Value) (w : World), w.heap[g]? = some (.cells cur.toArray t fz) → (∀ j, j < cur.length → ¬ (fz.1 ≤ j ∧ j < fz.2)) →
  o + i + vs.length ≤ cur.length → (∀ v ∈ vs, v.oneCell' = true) → ∃ (w' : World) (cur' : List Value), (storeCells ⟨g, o, none⟩ vs i).run P w = .ok () w' ∧ w'.heap[g]? = some (.cells cur'.toArray t fz) ∧ (∀ k, k ≠ g → w'.heap[k]? = w.heap[k]?) ∧
   w'.heap.size = w.heap.size ∧ w'.os = w.os ∧ w'.tape = w.tape ∧ w'.output = w.output ∧ cur'.length = cur.length ∧ ∀ (j : Nat), cur'[j]? = if o + i ≤ j ∧ j < o + i + vs.length then vs[j - (o + i)]? else cur[j]?
 | [], i, cur, w, hg, _, _, _ => ⟨w, cur, by simp [storeCells], hg, fun _ _ => rfl, rfl, rfl, rfl, rfl, rfl, fun j => by simp; omega⟩
 | v :: vs, i, cur, w, hg, hfz, hle, h1 => by
  simp only [List.length_cons] at hle
  have hadd : (⟨g, o, none⟩ : Addr).add i = ⟨g, o + i, none⟩ := by unfold Addr.add; split <;> simp_all
  have hlt : o + i < cur.length := by omega
  have hcell : w.cell? ⟨g, o + i, none⟩ = some cur[o + i] := by simp [World.cell?, hg, hlt]
  have hfr : w.frozen? ⟨g, o + i, none⟩ = false := by
   have := hfz (o + i) hlt
   simp only [World.frozen?, hg]
   simpa using this
  have hst : (store (⟨g, o + i, none⟩ : Addr) v).run P w = .ok () (w.setCell ⟨g, o + i, none⟩ v) := by
   rw [run_store P w _ v .plain (h1 v (by simp)), hcell]; simp [hfr]
  obtain ⟨w', cur', e1, e2, e3, e4, e5, e6, e7, e8, e9⟩ := store_cells P (g := g) (o := o) vs (i + 1) (cur.set (o + i) v) (w.setCell ⟨g, o + i, none⟩ v) (heap_setCell_at hg) (by simpa using hfz) (by simp; omega) (fun u hu => h1 u (by simp [hu]))
  refine ⟨w', cur', by simp [storeCells, hadd, hst, e1], e2, fun k hk => ?_, ?_, e5, e6, e7, by simpa using e8, fun j => ?_⟩
  ·rw [e3 k hk]
   simp only [World.setCell, Array.getElem?_modify]
   rw [if_neg (Ne.symm hk)]
  ·rw [e4]; simp [World.setCell]
  ·rw [e9 j]
   by_cases ha : o + (i + 1) ≤ j ∧ j < o + (i + 1) + vs.length
   ·rw [if_pos ha, if_pos (by simp; omega)]
    have : j - (o + i) = (j - (o + (i + 1))) + 1 := by omega
    rw [this]; simp
   ·rw [if_neg ha, List.getElem?_set]
    by_cases hb : o + i = j
    ·subst hb
     rw [if_pos rfl, if_pos (by omega), if_pos (by simp)]; simp
    ·rw [if_neg hb, if_neg (by simp; omega)]
theorem find_put : ∀ {σ : Mem} {n m : Nat} {b : Blk}, Mem.find (σ.put n b) m = if m = n then (Mem.find σ n).map (fun _ => b) else Mem.find σ m
 | [], n, m, b => by simp [Mem.put, Mem.find]
 | (k, x) :: r, n, m, b => by
  simp only [Mem.put]
  by_cases hk : k = n
  ·subst hk
   rw [if_pos rfl]
   simp only [Mem.find]
   by_cases hm : m = k
   ·subst hm; simp
   ·rw [if_neg (Ne.symm hm), if_neg hm, if_neg (Ne.symm hm)]
  ·rw [if_neg hk]
   simp only [Mem.find]
   by_cases hm : k = m
   ·subst hm; rw [if_pos rfl, if_neg hk, if_pos rfl]
   ·rw [if_neg hm, if_neg hm, if_neg hk]
    exact find_put
theorem sameShape_len : ∀ {s x : List Seg}, sameShape s x = true → slen s = slen x
 | [], [], _ => rfl
 | [], _ :: _, h => by simp [sameShape] at h
 | a :: r, [], h => by cases a <;> simp [sameShape] at h
 | a :: r, b :: r', h => by
  cases a <;> cases b <;> simp [sameShape, Bool.and_eq_true] at h <;> simp only [slen, Seg.len, sameShape_len h.2] <;> omega
section
variable {P : Program}
theorem change_sound {E : Env} {ρ : Rho} {fr : Fr} {σ : Mem} {a : Act} {w w' : World} {n g : Nat} {b b' : Blk} (h : Rep E ρ fr σ a w) (hn : Mem.find σ n = some b) (hg : Out ρ n b g) (hw : ∀ k, k ≠ g → w'.heap[k]? = w.heap[k]?) (hsz : w'.heap.size = w.heap.size)
  (h1 : w'.os = w.os) (h2 : w'.tape = w.tape) (h3 : w'.output = w.output) (hb : BlkRep ρ w' n b') (ho : ∀ k, Out ρ n b' k → Out ρ n b k) (hf : ∀ k, Foot ρ n b' k → Foot ρ n b k) (hi : ∀ k, Inn ρ n b' k → Inn ρ n b k) :
  Rep E ρ fr (σ.put n b') a w' := by
 have un : ∀ {m c}, Mem.find (σ.put n b') m = some c → (m = n ∧ c = b') ∨ (m ≠ n ∧ Mem.find σ m = some c) := by
  intro m c hm
  rw [find_put] at hm
  split at hm
  ·rename_i e; rw [hn] at hm; simp only [Option.map_some, Option.some.injEq] at hm; exact Or.inl ⟨e, hm.symm⟩
  ·rename_i e; exact Or.inr ⟨e, hm⟩
 refine ⟨h.fr, h.df, fun m c hm => ?_, ⟨fun m q c d k hm hq hmq hO hF => ?_, fun m c k hm hO hI => ?_⟩, h.fix, h.ext, fun m c k hm hO => ?_, ?_⟩
 ·rcases un hm with ⟨e, e'⟩ | ⟨hne, hm'⟩
  ·rw [e, e']; exact hb
  ·exact (h.mem m c hm').keeps fun k hk => hw k fun e => by subst e; exact h.sep.1 n m b c k hn hm' (Ne.symm hne) hg hk
 ·rcases un hm with ⟨e, e'⟩ | ⟨hne, hm'⟩
  ·rw [e, e'] at hO
   rcases un hq with ⟨f, f'⟩ | ⟨hne', hq'⟩
   ·exact hmq (e.trans f.symm)
   ·exact h.sep.1 n q b d k hn hq' (fun f => hmq (e.trans f)) (ho k hO) hF
  ·rcases un hq with ⟨f, f'⟩ | ⟨hne', hq'⟩
   ·rw [f, f'] at hF
    exact h.sep.1 m n c b k hm' hn hne hO (hf k hF)
   ·exact h.sep.1 m q c d k hm' hq' hmq hO hF
 ·rcases un hm with ⟨e, e'⟩ | ⟨hne, hm'⟩
  ·rw [e, e'] at hO hI
   exact h.sep.2 n b k hn (ho k hO) (hi k hI)
  ·exact h.sep.2 m c k hm' hO hI
 ·rcases un hm with ⟨e, e'⟩ | ⟨hne, hm'⟩
  ·rw [e, e'] at hO
   exact h.own n b k hn (ho k hO)
  ·exact h.own m c k hm' hO
 ·refine ⟨h1.trans h.keep.os, h2.trans h.keep.tape, h3.trans h.keep.output, by rw [hsz]; exact h.keep.size, fun k hk hx => ?_⟩
  rw [← h.keep.block k hk hx]
  refine hw k fun e => ?_
  subst e
  rcases h.own n b k hn hg with q | q
  ·omega
  ·exact hx q
theorem put_sound {E : Env} {ρ : Rho} {fr : Fr} {σ : Mem} {a : Act} {w : World} (h : Rep E ρ fr σ a w) {n off z : Nat} {T' : TypeId} {s s' : List Seg} {yl : List AC} {vs : List Value} (hn : Mem.find σ n = some (.own T' s)) (ho' : segsOk s') (hlen : slen s' = slen s) (hfit : off + z ≤ slen s)
  (hv : vs.length = z) (h1 : ∀ u ∈ vs, u.oneCell' = true) (hu : ∀ (j : Nat) b u, yl[j]? = some b → vs[j]? = some u → CRep ρ b u)
  (hl : ∀ (j : Nat), (flat s')[j]? = if off ≤ j ∧ j < off + z then yl[j - off]? else (flat s)[j]?) :
  ∃ w', (storeCells (at_ ρ n off) vs).run P w = .ok () w' ∧ w'.heap.size = w.heap.size ∧ Rep E ρ fr (σ.put n (.own T' s')) a w' ∧ ∀ k, k ≠ (ρ n).1 → w'.heap[k]? = w.heap[k]? := by
 obtain ⟨ho, hz, c, fz, hh, hf, hfz⟩ := h.mem n _ hn
 have hcl : c.length = slen s := by rw [← hf.1, flat_length ho]
 obtain ⟨w', cur', e1, e2, e3, e4, e5, e6, e7, e8, e9⟩ := store_cells P (g := (ρ n).1) (o := off) vs 0 c w hh hfz (by omega) h1
 have haddr : at_ ρ n off = ⟨(ρ n).1, off, none⟩ := by simp [at_, hz]
 have hrow : FRep ρ (flat s') cur' := by
  refine FRep.put (off := off) (z := z) (ys := yl) (us := vs) hf (by rw [flat_length ho', flat_length ho, hlen]) e8 hu hl (fun j => ?_)
  rw [e9 j]; simp [hv]
 exact ⟨w', by rw [haddr]; exact e1, e4, change_sound h hn (g := (ρ n).1) rfl e3 e4 e5 e6 e7 ⟨ho', hz, cur', fz, e2, hrow, fun j hj => hfz j (by omega)⟩ (fun k hk => hk) (fun k hk => hk) (fun k hk => hk), e3⟩
theorem storeVar_run {T : TypeId} {z : Nat} {v : Value} {A : Addr} {w w' : World} (hsz : sizeB P T = some z) (hv : v.cells.size = z) (h : (storeCells A v.cells.toList).run P w = .ok () w') : (storeVar T A v).run P w = .ok () w' := by
 simp [storeVar, run_sizeB hsz, hv, h]
theorem FRep.one {ρ : Rho} {l : List AC} {c : List Value} (h : FRep ρ l c) : ∀ u ∈ c, u.oneCell' = true := by
 intro u hu
 obtain ⟨j, hj⟩ := List.mem_iff_getElem?.1 hu
 have hlt : j < l.length := by rw [h.1]; exact (List.getElem?_eq_some_iff.1 hj).1
 exact (h.2 j l[j] u (List.getElem?_eq_getElem hlt) hj).one
theorem storex_sound {E : Env} {ρ : Rho} {fr : Fr} {σ : Mem} {a : Act} {w : World} {T : TypeId} {n base idx : Nat} {x : AV} {v : Value} {K : Mem → Prop} (h : storex P σ T n base idx x K) (hR : Rep E ρ fr σ a w) (hx : SRep ρ x v) :
  ∃ w' σ' bk, (storeVar T (at_ ρ n (base + idx)) v).run P w = .ok () w' ∧ w'.heap.size = w.heap.size ∧ Rep E ρ fr σ' a w' ∧ K σ' ∧ (∀ k, k ≠ (ρ n).1 → w'.heap[k]? = w.heap[k]?) ∧ (∀ m, m ≠ n → Mem.find σ' m = Mem.find σ m) ∧ Mem.find σ n = some bk ∧ Out ρ n bk (ρ n).1 := by
 unfold storex at h
 split at h <;> try exact h.elim
 rename_i T' s hn
 have ho : segsOk s := (hR.mem n _ hn).1
 split at h
 ·rename_i z hag hsz
  split at h <;> try exact h.elim
  rename_i xs
  have hseg := AV.segs_sound (s := xs) rfl hx
  have hvl : v.cells.size = slen xs := by have := hseg.2.1; rw [flat_length hseg.1] at this; simpa using this.symm
  split at h
  ·split at h <;> try exact h.elim
   split at h <;> try exact h.elim
   split at h <;> try exact h.elim
   rename_i hsame hz
   have hl := sameShape_len hsame
   obtain ⟨w', e1, e0, e2, e7⟩ := put_sound (P := P) hR (off := 0) (z := z) (s' := xs) (yl := flat xs) (vs := v.cells.toList) hn hseg.1 hl.symm (by omega) (by simp; omega) hseg.2.one (fun j b u h1 h2 => hseg.2.2 j b u h1 h2) (fun j => by
    by_cases hj : j < z
    ·rw [if_pos (by omega)]; simp
    ·rw [if_neg (by omega), List.getElem?_eq_none (by rw [flat_length hseg.1]; omega), List.getElem?_eq_none (by rw [flat_length ho]; omega)])
   exact ⟨w', _, _, storeVar_run hsz (by omega) e1, e0, e2, h, e7, fun m hm => by rw [find_put, if_neg hm], hn, rfl⟩
  ·obtain ⟨s', hK, g1, g2, g3, g5, g4⟩ := storePart_sound h ho hseg.1
   have hzz : v.cells.size = z := by rw [hvl, ← flat_length hseg.1]; exact g5
   obtain ⟨w', e1, e0, e2, e7⟩ := put_sound (P := P) hR (vs := v.cells.toList) hn g1 g2 g3 (by simpa using hzz) hseg.2.one (fun j b u h1 h2 => hseg.2.2 j b u h1 h2) g4
   exact ⟨w', _, _, storeVar_run hsz hzz e1, e0, e2, hK, e7, fun m hm => by rw [find_put, if_neg hm], hn, rfl⟩
 ·rename_i hag hsz
  split at h <;> try exact h.elim
  rename_i b
  have hseg := AV.segs_sound (s := [.cells [b]]) rfl hx
  obtain ⟨s', hK, g1, g2, g3, b', hb', g4⟩ := storeOne_sound h ho
  have hv1 : v.cells.size = 1 := by have := hseg.2.1; simpa [flat, Seg.flat] using this.symm
  obtain ⟨w', e1, e0, e2, e7⟩ := put_sound (P := P) hR (vs := v.cells.toList) (z := 1) (yl := [b']) hn g1 g2 (by omega) (by simpa using hv1) hseg.2.one (fun j c u h1 h2 => by
   cases j with
   | zero => simp at h1; subst h1; exact hb' _ _ (hseg.2.2 0 b u (by simp [flat, Seg.flat]) h2)
   | succ j => simp at h1) g4
  exact ⟨w', _, _, storeVar_run hsz hv1 e1, e0, e2, hK, e7, fun m hm => by rw [find_put, if_neg hm], hn, rfl⟩
 ·exact h.elim
theorem vec_store {E : Env} {ρ : Rho} {fr : Fr} {σ : Mem} {a : Act} {w : World} (h : Rep E ρ fr σ a w) {n q : Nat} {cs cs' : List Col} {vs : List Value} (hn : Mem.find σ n = some (.vec cs)) (hk : kdsOf cs' = kdsOf cs) (hok : ∀ col ∈ cs', col.ok (ρ n).len)
  (hr : ∀ (c : Nat) k ll, cs'[c]? = some (Col.rows k ll) → cs[c]? = some (Col.rows k ll)) (hq' : Lnk ρ (ρ n) cs') (hfit : q + vs.length ≤ (ρ n).len * cwidth cs) (h1 : ∀ u ∈ vs, u.oneCell' = true)
  (hv : ∀ i, i < (ρ n).len → ∀ t, t < cwidth cs → some (rowVal (ρ n) cs' 0 i t) = if q ≤ i * cwidth cs + t ∧ i * cwidth cs + t < q + vs.length then vs[i * cwidth cs + t - q]? else some (rowVal (ρ n) cs 0 i t)) :
  ∃ w', (storeCells (at_ ρ n q) vs).run P w = .ok () w' ∧ w'.heap.size = w.heap.size ∧ Rep E ρ fr (σ.put n (.vec cs')) a w' ∧ ∀ k, k ≠ (ρ n).1 → w'.heap[k]? = w.heap[k]? := by
 obtain ⟨hV, hW, hLn⟩ := h.mem n _ hn
 have hwd : cwidth cs' = cwidth cs := by simp [cwidth, hk]
 have inn : ∀ k, Inner (ρ n) cs' k → Inner (ρ n) cs k := by
  rintro k ⟨c, kk, ll, i, l, A, g1, g2⟩
  exact ⟨c, kk, ll, i, l, A, hr c kk ll g1, g2⟩
 have hne : cs' ≠ [] := fun e => by rw [e] at hwd; have := hV.wid; rw [← hwd] at this; exact absurd this (by decide)
 by_cases hcap : (ρ n).cap = 0
 ·
  have hlen : (ρ n).len = 0 := by have := hV.cap; omega
  have hvs : vs = [] := by rw [hlen] at hfit; cases vs <;> simp_all
  subst hvs
  refine ⟨w, by simp [storeCells], rfl, ?_, fun _ _ => rfl⟩
  have hB : BlkRep ρ w n (.vec cs') := ⟨⟨hne, by rw [hwd]; exact hV.wid, hok, hV.cap, hV.adr, fun i hi => by omega, fun c k ll hc i l hl => hV.inner c k ll (hr c k ll hc) i l hl⟩, fun q => absurd hcap q, hq'⟩
  have un : ∀ {m c}, Mem.find (σ.put n (.vec cs')) m = some c → (m = n ∧ c = .vec cs') ∨ (m ≠ n ∧ Mem.find σ m = some c) := by
   intro m c hm
   rw [find_put] at hm
   split at hm
   ·rename_i e; rw [hn] at hm; simp only [Option.map_some, Option.some.injEq] at hm; exact Or.inl ⟨e, hm.symm⟩
   ·rename_i e; exact Or.inr ⟨e, hm⟩
  have out : ∀ k, ¬ Out ρ n (.vec cs') k := fun k q => q.1 hcap
  have foot : ∀ k, Foot ρ n (.vec cs') k → Foot ρ n (.vec cs) k := fun k q => by
   rcases q with q | q
   ·exact Or.inl q
   ·exact Or.inr (inn k q)
  refine ⟨h.fr, h.df, fun m c hm => ?_, ⟨fun m q c d k hm hq hmq hO hF => ?_, fun m c k hm hO hI => ?_⟩, h.fix, h.ext, fun m c k hm hO => ?_, h.keep⟩
  ·rcases un hm with ⟨e, e'⟩ | ⟨_, hm'⟩
   ·rw [e, e']; exact hB
   ·exact h.mem m c hm'
  ·rcases un hm with ⟨e, e'⟩ | ⟨_, hm'⟩
   ·rw [e, e'] at hO; exact out k hO
   ·rcases un hq with ⟨f, f'⟩ | ⟨_, hq'⟩
    ·rw [f, f'] at hF; exact h.sep.1 m n c _ k hm' hn (fun g => hmq (g.trans f.symm)) hO (foot k hF)
    ·exact h.sep.1 m q c d k hm' hq' hmq hO hF
  ·rcases un hm with ⟨e, e'⟩ | ⟨_, hm'⟩
   ·rw [e, e'] at hO; exact out k hO
   ·exact h.sep.2 m c k hm' hO hI
  ·rcases un hm with ⟨e, e'⟩ | ⟨_, hm'⟩
   ·rw [e, e'] at hO; exact absurd hO (out k)
   ·exact h.own m c k hm' hO
 ·obtain ⟨ha, c, T, fz, hh, hsz, hfz⟩ := hW hcap
  have hle : (ρ n).len * cwidth cs ≤ (ρ n).cap * cwidth cs := Nat.mul_le_mul_right _ hV.cap
  obtain ⟨w', cur', e1, e2, e3, e4, e5, e6, e7, e8, e9⟩ := store_cells P (g := (ρ n).1) (o := (ρ n).2 + q) vs 0 c.toList w hh (by simpa using hfz) (by simp; omega) h1
  have hinn : ∀ k, Inner (ρ n) cs k → w'.heap[k]? = w.heap[k]? := fun k hk => e3 k fun e => h.sep.2 n _ (ρ n).1 hn ⟨hcap, rfl⟩ (by rw [← e]; exact hk)
  have inner' : ∀ (c : Nat) k ll, cs[c]? = some (Col.rows k ll) → ∀ (i : Nat) l, ll[i]? = some l → EltRep w' ((ρ n).el c i) k l := fun c k ll hc i l hl => by
   obtain ⟨q1, q2, q3, q4⟩ := hV.inner c k ll hc i l hl
   refine ⟨q1, q2, q3, fun j x hx A hA => ?_⟩
   have hb : (A.add j).block = A.block := by unfold Addr.add; split <;> rfl
   have := hinn A.block ⟨c, k, ll, i, l, A, hc, hl, fun e => by subst e; simp at hx, hA, rfl⟩
   exact (cell_same (a := A.add j) (by rw [hb]; exact this)).trans (q4 j x hx A hA)
  refine ⟨w', e1, e4, change_sound h hn (g := (ρ n).1) ⟨hcap, rfl⟩ e3 e4 e5 e6 e7 ⟨⟨hne, by rw [hwd]; exact hV.wid, hok, hV.cap, hV.adr, fun i hi t ht => ?_, fun c k ll hc => inner' c k ll (hr c k ll hc)⟩, fun _ => ⟨ha, cur'.toArray, T, fz, e2, by rw [hwd]; simp [e8]; omega, by simpa [e8] using hfz⟩, hq'⟩ (fun k q => q) (fun k q => ?_) inn, e3⟩
  ·rw [hwd] at ht ⊢
   have hb : i * cwidth cs + t < (ρ n).len * cwidth cs := by
    have : (i + 1) * cwidth cs ≤ (ρ n).len * cwidth cs := Nat.mul_le_mul_right _ (by omega)
    rw [Nat.add_mul, Nat.one_mul] at this; omega
   have h9 := e9 ((ρ n).2 + (i * cwidth cs + t))
   have old := hV.cells i hi t ht
   simp only [World.cell?, Loc.at, hh, Option.isSome_none, Bool.false_eq_true, if_false] at old
   simp only [World.cell?, Loc.at, e2, Option.isSome_none, Bool.false_eq_true, if_false]
   rw [List.getElem?_toArray, h9, hv i hi t ht]
   by_cases hin : q ≤ i * cwidth cs + t ∧ i * cwidth cs + t < q + vs.length
   ·rw [if_pos hin, if_pos (by omega)]
    congr 1; omega
   ·rw [if_neg hin, if_neg (by omega)]
    simpa using old
  ·rcases q with q | q
   ·exact Or.inl q
   ·exact Or.inr (inn k q)
end
theorem flat_rng {z i i' t b m : Nat} (ht : t < z) (hb : b + m ≤ z) : (i * z + b ≤ i' * z + t ∧ i' * z + t < i * z + b + m) ↔ (i' = i ∧ b ≤ t ∧ t < b + m) := by
 rcases Nat.lt_trichotomy i' i with h | h | h
 ·have : (i' + 1) * z ≤ i * z := Nat.mul_le_mul_right _ h
  rw [Nat.add_mul, Nat.one_mul] at this
  constructor
  ·intro q; omega
  ·intro q; omega
 ·subst h; constructor
  ·intro q; omega
  ·intro q; omega
 ·have : (i + 1) * z ≤ i' * z := Nat.mul_le_mul_right _ h
  rw [Nat.add_mul, Nat.one_mul] at this
  constructor
  ·intro q; omega
  ·intro q; omega
theorem rowVal_set {L : Loc} {col' : Col} : ∀ {cs : List Col} {b c0 c : Nat} {col : Col}, colAt cs b c0 = some (c, col) → col'.kd = col.kd → ∀ i t,
  rowVal L (setCol cs (c - c0) col') c0 i t = if b ≤ t ∧ t < b + col.kd.width then colVal L c col' i (t - b) else rowVal L cs c0 i t
 | [], _, _, _, _, h, _ => by simp [colAt] at h
 | x :: r, 0, c0, c, col, h, hk => fun i t => by
  simp only [colAt, Option.some.injEq, Prod.mk.injEq] at h
  obtain ⟨rfl, rfl⟩ := h
  simp only [Nat.sub_self, setCol, rowVal, hk, Nat.zero_le, true_and, Nat.zero_add, Nat.sub_zero]
  split <;> rfl
 | x :: r, b + 1, c0, c, col, h, hk => fun i t => by
  simp only [colAt] at h
  split at h
  ·rename_i hle
   have hle' : x.kd.width ≤ b + 1 := Nat.le_of_ble_eq_true hle
   have h1 := (colAt_sound (L := L) h).1
   have ih := rowVal_set (L := L) (col' := col') h hk i (t - x.kd.width)
   obtain ⟨d, hd⟩ : ∃ d, c - c0 = d + 1 := ⟨c - (c0 + 1), by omega⟩
   rw [hd]
   simp only [setCol, rowVal]
   rw [show d = c - (c0 + 1) by omega, ih]
   by_cases ht : t < x.kd.width
   ·rw [if_pos ht, if_pos ht, if_neg (by omega)]
   ·rw [if_neg ht, if_neg ht]
    by_cases hq : b + 1 ≤ t ∧ t < b + 1 + col.kd.width
    ·rw [if_pos hq, if_pos (by omega)]
     congr 1; omega
    ·rw [if_neg hq, if_neg (by omega)]
  ·cases h
theorem setCol_kds : ∀ {cs : List Col} {c : Nat} {col col' : Col}, cs[c]? = some col → col'.kd = col.kd → kdsOf (setCol cs c col') = kdsOf cs
 | [], c, _, _, h, _ => by simp at h
 | x :: r, 0, col, col', h, hk => by simp at h; subst h; simp [setCol, kdsOf, hk]
 | x :: r, c + 1, col, col', h, hk => by
  have := setCol_kds (cs := r) (c := c) (by simpa using h) hk
  simp only [setCol, kdsOf, List.map_cons] at this ⊢
  rw [this]
theorem setCol_get : ∀ {cs : List Col} {c : Nat} {col' : Col} (j : Nat), c < cs.length → (setCol cs c col')[j]? = if j = c then some col' else cs[j]?
 | [], c, _, j, h => by simp at h
 | x :: r, 0, col', j, _ => by cases j <;> simp [setCol]
 | x :: r, c + 1, col', 0, _ => by simp [setCol]
 | x :: r, c + 1, col', j + 1, h => by
  simp only [setCol, List.getElem?_cons_succ]
  rw [setCol_get j (by simpa using h)]
  simp
theorem setCol_mem {cs : List Col} {c : Nat} {col' x : Col} (hc : c < cs.length) (h : x ∈ setCol cs c col') : x = col' ∨ x ∈ cs := by
 obtain ⟨j, hj⟩ := List.mem_iff_getElem?.1 h
 rw [setCol_get j hc] at hj
 split at hj
 ·cases hj; exact Or.inl rfl
 ·exact Or.inr (List.mem_of_getElem? hj)
section
variable {P : Program} {E : Env} {ρ : Rho} {fr : Fr} {σ : Mem} {a : Act} {w : World}
theorem col_store (h : Rep E ρ fr σ a w) {n b c i j0 : Nat} {cs : List Col} {col col' : Col} {vs : List Value} (hn : Mem.find σ n = some (.vec cs)) (hc : colAt cs b 0 = some (c, col)) (hkd : col'.kd = col.kd) (hok : col'.ok (ρ n).len) (hrow : ∀ k ll, col' ≠ .rows k ll) (hhs : ∀ k ll, col' ≠ .hss k ll) (hi : i < (ρ n).len)
  (hm : j0 + vs.length ≤ col.kd.width) (h1 : ∀ u ∈ vs, u.oneCell' = true) (hv : ∀ i' t, t < col.kd.width → some (colVal (ρ n) c col' i' t) = if i' = i ∧ j0 ≤ t ∧ t < j0 + vs.length then vs[t - j0]? else some (colVal (ρ n) c col i' t)) :
  ∃ w', (storeCells (at_ ρ n (i * cwidth cs + b + j0)) vs).run P w = .ok () w' ∧ w'.heap.size = w.heap.size ∧ Rep E ρ fr (σ.put n (.vec (setCol cs c col'))) a w' ∧ ∀ k, k ≠ (ρ n).1 → w'.heap[k]? = w.heap[k]? := by
 obtain ⟨_, q2, q3, q4⟩ := colAt_sound (L := ρ n) hc
 have q2 : cs[c]? = some col := by simpa using q2
 have hlt : c < cs.length := (List.getElem?_eq_some_iff.1 q2).1
 have hV := (h.mem n _ hn).1
 have hfit : i * cwidth cs + b + j0 + vs.length ≤ (ρ n).len * cwidth cs := by
  have : (i + 1) * cwidth cs ≤ (ρ n).len * cwidth cs := Nat.mul_le_mul_right _ hi
  rw [Nat.add_mul, Nat.one_mul] at this; omega
 have hLn : Lnk ρ (ρ n) (setCol cs c col') := fun c' k ll hcc => by
  rw [setCol_get c' hlt] at hcc
  split at hcc
  ·cases hcc; exact absurd rfl (hhs k ll)
  ·exact (h.mem n _ hn).2.2 c' k ll hcc
 refine vec_store h hn (setCol_kds q2 hkd) (fun x hx => ?_) (fun c' k ll hcc => ?_) hLn hfit h1 (fun i' hi' t ht => ?_)
 ·rcases setCol_mem hlt hx with rfl | hx
  ·exact hok
  ·exact hV.ok x hx
 ·rw [setCol_get c' hlt] at hcc
  split at hcc
  ·cases hcc; exact absurd rfl (hrow k ll)
  ·exact hcc
 ·have hs := rowVal_set (L := ρ n) (col' := col') hc hkd i' t
  rw [Nat.sub_zero] at hs
  rw [hs]
  have hr := flat_rng (z := cwidth cs) (i := i) (i' := i') (t := t) (b := b + j0) (m := vs.length) ht (by omega)
  rw [← Nat.add_assoc] at hr
  by_cases hb : b ≤ t ∧ t < b + col.kd.width
  ·rw [if_pos hb, hv i' (t - b) (by omega)]
   by_cases hin : i' = i ∧ b + j0 ≤ t ∧ t < b + j0 + vs.length
   ·rw [if_pos (hr.2 hin), if_pos (by omega)]
    obtain ⟨rfl, _⟩ := hin
    congr 1; omega
   ·rw [if_neg (fun q => hin (hr.1 q)), if_neg (by omega)]
    have := q4 i' (t - b) (by omega)
    rw [show b + (t - b) = t by omega] at this
    rw [this]
  ·rw [if_neg hb, if_neg (fun q => by have := hr.1 q; omega)]
theorem lset_get (l : List Int) (i i' : Nat) (v : Int) (hi : i < l.length) : lget (lset l i v) i' = if i' = i then v else lget l i' := by
 simp only [lget, lset, List.getD, List.getElem?_set]
 by_cases h : i = i'
 ·subst h; simp [hi]
 ·simp [h, Ne.symm h]
theorem lsetb_get (l : List Bool) (i i' : Nat) (v : Bool) (hi : i < l.length) : lgetb (lsetb l i v) i' = if i' = i then v else lgetb l i' := by
 simp only [lgetb, lsetb, List.getD, List.getElem?_set]
 by_cases h : i = i'
 ·subst h; simp [hi]
 ·simp [h, Ne.symm h]
theorem llset_get (l : List (List Int)) (i i' : Nat) (v : List Int) (hi : i < l.length) : llget (llset l i v) i' = if i' = i then v else llget l i' := by
 simp only [llget, llset, List.getD, List.getElem?_set]
 by_cases h : i = i'
 ·subst h; simp [hi]
 ·simp [h, Ne.symm h]
theorem ssets_get (l : List ByteArray) (i i' : Nat) (v : ByteArray) (hi : i < l.length) : sgets (ssets l i v) i' = if i' = i then v else sgets l i' := by
 simp only [sgets, ssets, List.getD, List.getElem?_set]
 by_cases h : i = i'
 ·subst h; simp [hi]
 ·simp [h, Ne.symm h]
theorem storeV_sound {T : TypeId} {n z i b j : Nat} {x : AV} {v v1 : Value} {K : Mem → Prop} (h : storeV P σ T n z i b j x K) (hR : Rep E ρ fr σ a w) (hx : SRep ρ x v) (hp : SRep ρ (.one (.vptr n z i b j)) v1) :
  ∃ A w' σ' bk, v1 = .pointer (some A) ∧ (storeVar T A v).run P w = .ok () w' ∧ w'.heap.size = w.heap.size ∧ Rep E ρ fr σ' a w' ∧ K σ' ∧ (∀ k, k ≠ (ρ n).1 → w'.heap[k]? = w.heap[k]?) ∧ (∀ m, m ≠ n → Mem.find σ' m = Mem.find σ m) ∧ Mem.find σ n = some bk ∧ Out ρ n bk (ρ n).1 := by
 obtain ⟨rfl, hi⟩ := hp
 unfold storeV at h
 split at h <;> try exact h.elim
 rename_i cs hn
 split at h <;> try exact h.elim
 rename_i hz
 have hz' : z = cwidth cs := beq_nat hz
 subst hz'
 have hV := (hR.mem n _ hn).1
 have hcap : (ρ n).cap ≠ 0 := by have := hV.cap; omega
 have hO : Out ρ n (.vec cs) (ρ n).1 := ⟨hcap, rfl⟩
 have okc : ∀ {c : Nat} {col : Col}, colAt cs b 0 = some (c, col) → col.ok (ρ n).len := fun {c col} hc => hV.ok _ (List.mem_of_getElem? (by have := (colAt_sound (L := ρ n) hc).2.1; simpa using this))
 have fin : ∀ {c : Nat} {col col' : Col} {vs : List Value} {s : Nat} {j0 : Nat}, sizeB P T = some s → v.cells.size = s → vs = v.cells.toList → colAt cs b 0 = some (c, col) → col'.kd = col.kd → col'.ok (ρ n).len → (∀ k ll, col' ≠ .rows k ll) → (∀ k ll, col' ≠ .hss k ll) → j0 = j → j0 + vs.length ≤ col.kd.width →
   (∀ u ∈ vs, u.oneCell' = true) → (∀ i' t, t < col.kd.width → some (colVal (ρ n) c col' i' t) = if i' = i ∧ j0 ≤ t ∧ t < j0 + vs.length then vs[t - j0]? else some (colVal (ρ n) c col i' t)) → K (σ.put n (.vec (setCol cs c col'))) →
   ∃ A w' σ' bk, Value.pointer (some (at_ ρ n (i * cwidth cs + b + j))) = .pointer (some A) ∧ (storeVar T A v).run P w = .ok () w' ∧ w'.heap.size = w.heap.size ∧ Rep E ρ fr σ' a w' ∧ K σ' ∧ (∀ k, k ≠ (ρ n).1 → w'.heap[k]? = w.heap[k]?) ∧ (∀ m, m ≠ n → Mem.find σ' m = Mem.find σ m) ∧ Mem.find σ n = some bk ∧ Out ρ n bk (ρ n).1 := fun {c col col' vs s j0} hsz hvs hvs' hc hkd hok hrow hhs hj hm h1 hv hK => by
  subst hvs' hj
  obtain ⟨w', e1, e2, e3, e4⟩ := col_store (P := P) hR hn hc hkd hok hrow hhs hi hm h1 hv
  exact ⟨_, w', _, _, rfl, storeVar_run hsz hvs e1, e2, e3, hK, e4, fun m hm => by rw [find_put, if_neg hm], hn, hO⟩
 split at h
 ·rename_i hag hsz
  split at h
  ·rename_i c k l k' v' hc
   cases (show v = _ from hx)
   split at h <;> try exact h.elim
   split at h <;> try exact h.elim
   rename_i hk
   subst hk
   have hl : l.length = (ρ n).len := okc hc
   refine fin (col' := .ints k (lset l i v')) (vs := [.int k v']) (j0 := 0) hsz rfl rfl hc rfl (by simp [Col.ok, lset, hl]) (by simp) (by simp) rfl (by show 0 + 1 ≤ 1; omega) (by simp [Value.oneCell']) (fun i' t ht => ?_) h
   have ht : t = 0 := by have : t < 1 := ht; omega
   subst ht
   simp only [colVal, lset_get _ _ _ _ (show i < l.length by omega)]
   by_cases hii : i' = i <;> simp [hii]
  ·rename_i c l v' hc
   cases (show v = _ from hx)
   split at h <;> try exact h.elim
   have hl : l.length = (ρ n).len := okc hc
   refine fin (col' := .bools (lsetb l i v')) (vs := [.bool v']) (j0 := 0) hsz rfl rfl hc rfl (by simp [Col.ok, lsetb, hl]) (by simp) (by simp) rfl (by show 0 + 1 ≤ 1; omega) (by simp [Value.oneCell']) (fun i' t ht => ?_) h
   have ht : t = 0 := by have : t < 1 := ht; omega
   subst ht
   simp only [colVal, lsetb_get _ _ _ _ (show i < l.length by omega)]
   by_cases hii : i' = i <;> simp [hii]
  ·rename_i c l v' hc
   cases (show v = _ from hx)
   split at h <;> try exact h.elim
   have hl : l.length = (ρ n).len := okc hc
   refine fin (col' := .bools (lsetb l i v')) (vs := [.bool v']) (j0 := 0) hsz rfl rfl hc rfl (by simp [Col.ok, lsetb, hl]) (by simp) (by simp) rfl (by show 0 + 1 ≤ 1; omega) (by simp [Value.oneCell']) (fun i' t ht => ?_) h
   have ht : t = 0 := by have : t < 1 := ht; omega
   subst ht
   simp only [colVal, lsetb_get _ _ _ _ (show i < l.length by omega)]
   by_cases hii : i' = i <;> simp [hii]
  ·rename_i c l v' hc
   cases (show v = _ from hx)
   split at h <;> try exact h.elim
   have hl : l.length = (ρ n).len := okc hc
   refine fin (col' := .strs (ssets l i v')) (vs := [.string v']) (j0 := 0) hsz rfl rfl hc rfl (by simp [Col.ok, ssets, hl]) (by simp) (by simp) rfl (by show 0 + 1 ≤ 1; omega) (by simp [Value.oneCell']) (fun i' t ht => ?_) h
   have ht : t = 0 := by have : t < 1 := ht; omega
   subst ht
   simp only [colVal, ssets_get _ _ _ _ (show i < l.length by omega)]
   by_cases hii : i' = i <;> simp [hii]
  ·rename_i c k m l k' v' hc
   cases (show v = _ from hx)
   split at h <;> try exact h.elim
   rename_i hk
   subst hk
   obtain ⟨hj, h⟩ := h
   have hj := hj.lt
   obtain ⟨hl, hall⟩ := okc hc
   have hli : (llget l i).length = m := hall _ (List.mem_of_getElem? (llget_some (by omega)))
   refine fin (col' := .arrs k m (llset l i (lset (llget l i) j v'))) (vs := [.int k v']) (j0 := j) hsz rfl rfl hc rfl ⟨by simp [llset, hl], fun x hx => ?_⟩ (by simp) (by simp) rfl (by show j + 1 ≤ m; omega) (by simp [Value.oneCell']) (fun i' t ht => ?_) h
   ·simp only [llset] at hx
    rcases List.mem_or_eq_of_mem_set hx with hx | rfl
    ·exact hall x hx
    ·simp [lset, hli]
   ·simp only [colVal, llset_get _ _ _ _ (show i < l.length by omega)]
    by_cases hii : i' = i
    ·subst hii
     rw [if_pos rfl, lset_get _ _ _ _ (by omega)]
     by_cases htj : t = j
     ·subst htj; simp
     ·rw [if_neg htj, if_neg (by simp; omega)]
    ·rw [if_neg hii, if_neg (by simp [hii])]
  ·exact h.elim
 ·rename_i s hag hsz
  split at h <;> try exact h.elim
  rename_i c k m l k' m' v' hc
  split at h <;> try exact h.elim
  rename_i hk
  split at h <;> try exact h.elim
  rename_i hm
  split at h <;> try exact h.elim
  rename_i hs
  subst hk hm hs
  obtain ⟨hvl, rfl⟩ := srep_ints hx
  obtain ⟨hl, hall⟩ := okc hc
  refine fin (col' := .arrs k m' (llset l i v')) (vs := v'.map (Value.int k)) (j0 := 0) hsz (by simp [Value.cells, hvl]) (by simp [Value.cells]) hc rfl ⟨by simp [llset, hl], fun x hx => ?_⟩ (by simp) (by simp) rfl (by simp [hvl, Col.kd, Kd.width]) (fun u hu => ?_) (fun i' t ht => ?_) h
  ·simp only [llset] at hx
   rcases List.mem_or_eq_of_mem_set hx with hx | rfl
   ·exact hall x hx
   ·exact hvl
  ·obtain ⟨_, _, rfl⟩ := List.mem_map.1 hu; rfl
  ·have ht : t < m' := ht
   simp only [colVal, llset_get _ _ _ _ (show i < l.length by omega)]
   by_cases hii : i' = i
   ·subst hii
    rw [if_pos rfl, if_pos ⟨rfl, by omega, by simp; omega⟩]
    simp [lget, List.getD, show t < v'.length by omega]
   ·rw [if_neg hii, if_neg (by simp [hii])]
 ·exact h.elim
theorem storeH_sound {T : TypeId} {k : IntKind} {j i : Nat} {x : AV} {v v1 : Value} {K : Mem → Prop} (h : storeH P σ T k j i x K) (hR : Rep E ρ fr σ a w) (hx : SRep ρ x v) (hp : SRep ρ (.one (.hp k j i)) v1) :
  ∃ A w' σ' bk g, v1 = .pointer (some A) ∧ (storeVar T A v).run P w = .ok () w' ∧ w'.heap.size = w.heap.size ∧ Rep E ρ fr σ' a w' ∧ K σ' ∧ (∀ q, q ≠ g → w'.heap[q]? = w.heap[q]?) ∧ (∀ m, m ≠ hname k → Mem.find σ' m = Mem.find σ m) ∧ Mem.find σ (hname k) = some bk ∧ Out ρ (hname k) bk g := by
 obtain ⟨A, hA, rfl, hi, hj⟩ := hp
 unfold storeH at h
 split at h <;> try exact h.elim
 rename_i os ho
 split at h <;> try exact h.elim
 rename_i k' v' hag hsz
 cases (show v = _ from hx)
 split at h <;> try exact h.elim
 rename_i hk
 subst hk
 have hfd := heap_find ho
 obtain ⟨h0, hH⟩ := hR.mem _ _ hfd
 obtain ⟨g1, g2, g3, g4⟩ := heap_obj hR.mem ho hj
 obtain ⟨f1, f2, f3⟩ := Elt.loc_facts ((ρ (hname k')).el 0 j)
 have hcap : ((ρ (hname k')).el 0 j).cap ≠ 0 := by have := g1.cap; rw [f2, f3] at this; omega
 obtain ⟨b1, c, T0, fz, b2, b3, b4⟩ := g2 (by rw [f3]; exact hcap)
 have eA : A = ((ρ (hname k')).el 0 j).loc.at 0 := by rw [f1, hA] at b1; exact Option.some.inj b1
 have hcz : ((ρ (hname k')).el 0 j).loc.2 + ((ρ (hname k')).el 0 j).loc.cap ≤ c.size := by simpa using b3
 have hle : ((ρ (hname k')).el 0 j).len ≤ ((ρ (hname k')).el 0 j).cap := by have := g1.cap; rw [f2, f3] at this; exact this
 obtain ⟨w', cur', e1, e2, e3, e4, e5, e6, e7, e8, e9⟩ := store_cells P (g := ((ρ (hname k')).el 0 j).loc.1) (o := ((ρ (hname k')).el 0 j).loc.2 + i) [.int k' v'] 0 c.toList w b2 (by simpa using b4) (by rw [f3] at hcz; simp; omega) (by simp [Value.oneCell'])
 have eadd : A.add i = ⟨((ρ (hname k')).el 0 j).loc.1, ((ρ (hname k')).el 0 j).loc.2 + i, none⟩ := by
  rw [eA, Loc.at_add]; simp [Loc.at]
 have hB : BlkRep ρ w' (hname k') (.heap k' (llset os j (lset (llget os j) i v'))) := by
  refine ⟨h0, hH.len0, by rw [hH.n]; simp [llset], by rw [llset, List.length_set]; exact hH.pos, hH.zero, fun q l hl => ?_, fun p q hp hq => hH.apart p q (by simpa [llset] using hp) (by simpa [llset] using hq)⟩
  have hq : q < os.length := by have := (List.getElem?_eq_some_iff.1 hl).1; simpa [llset] using this
  by_cases hqj : q = j
  ·subst hqj
   have el : l = lset (llget os q) i v' := by
    rw [llset, List.getElem?_set, if_pos rfl, if_pos hq] at hl; exact (Option.some.inj hl).symm
   subst el
   refine ⟨.ofInts (by rw [f2, ← g3]; simp [lset]) g1.cap g1.adr fun t x ht => ?_, fun _ => ⟨b1, cur'.toArray, T0, fz, e2, by simpa [e8] using b3, by simpa [e8] using b4⟩⟩
   have htl : t < (llget os q).length := by have := (List.getElem?_eq_some_iff.1 ht).1; simpa [lset] using this
   have h9 := e9 (((ρ (hname k')).el 0 q).loc.2 + t)
   simp only [World.cell?, Loc.at, e2, Option.isSome_none, Bool.false_eq_true, if_false]
   rw [List.getElem?_toArray, h9]
   by_cases hti : t = i
   ·subst hti
    rw [if_pos (by simp)]
    rw [lset, List.getElem?_set, if_pos rfl, if_pos htl] at ht
    cases ht
    simp
   ·rw [if_neg (by simp; omega)]
    rw [lset, List.getElem?_set, if_neg (fun q => hti q.symm)] at ht
    have old := g1.cells t (by rw [f2, ← g3]; exact htl) 0 (by show 0 < 1; omega)
    have ec : cwidth [Col.ints k' (llget os q)] = 1 := rfl
    rw [ec, Nat.mul_one, Nat.add_zero] at old
    simp only [World.cell?, Loc.at, b2, Option.isSome_none, Bool.false_eq_true, if_false] at old
    rw [Array.getElem?_toList, old]
    simp [rowVal, Col.kd, Kd.width, colVal, lget, List.getD, ht]
  ·have hl' : os[q]? = some l := by rw [llset, List.getElem?_set, if_neg (fun e => hqj e.symm)] at hl; exact hl
   obtain ⟨o1, o2⟩ := hH.obj q l hl'
   obtain ⟨p1, p2, p3⟩ := Elt.loc_facts ((ρ (hname k')).el 0 q)
   have diff : ((ρ (hname k')).el 0 q).cap ≠ 0 → w'.heap[((ρ (hname k')).el 0 q).loc.1]? = w.heap[((ρ (hname k')).el 0 q).loc.1]? := fun hc =>
    e3 _ (hH.apart q j hq g4 hqj hc hcap)
   refine ⟨o1.keeps fun y hy => ?_, fun hc => ?_⟩
   ·rcases hy with ⟨y1, rfl⟩ | ⟨c', kk, ll, i', l', a', hc, _⟩
    ·exact diff (by have := o1.cap; rw [p2, p3] at this; rw [p2] at y1; omega)
    ·cases c' <;> simp at hc
   ·obtain ⟨y1, c', T', fz', y2, y3⟩ := o2 hc
    exact ⟨y1, c', T', fz', by rw [diff (by rw [← p3]; exact hc)]; exact y2, y3⟩
 refine ⟨A.add i, w', _, _, _, rfl, storeVar_run hsz rfl (by rw [eadd]; exact e1), e4, change_sound hR hfd (g := ((ρ (hname k')).el 0 j).loc.1) ⟨j, hj, hcap, rfl⟩ e3 e4 e5 e6 e7 hB (fun _ q => q) (fun _ q => q) (fun _ q => q), h, e3, fun m hm => by rw [find_put, if_neg hm], hfd, ⟨j, hj, hcap, rfl⟩⟩
end
theorem elemKinds_sound {P : Program} {e : TypeId} {ks : List Kd} {bytes : Nat} (h : elemKinds P e = some (ks, bytes)) :
  ∃ i z, P.info? e = some i ∧ i.zero = some z ∧ zeroIs ks z.cells.toList = true ∧ i.size = width ks ∧ 0 < width ks ∧ i.bytes = bytes ∧ 0 < bytes := by
 unfold elemKinds at h
 split at h <;> try (cases h; done)
 rename_i ks' i hk hi
 split at h <;> try (cases h; done)
 rename_i z hz
 split at h <;> try (cases h; done)
 rename_i hb
 simp only [Option.some.injEq, Prod.mk.injEq] at h
 obtain ⟨rfl, rfl⟩ := h
 simp only [Bool.and_eq_true] at hb
 obtain ⟨⟨⟨h1, h2⟩, h3⟩, h4⟩ := hb
 exact ⟨i, z, hi, hz, h1, beq_nat h2, by simpa using h3, rfl, by simpa using h4⟩
theorem kd_eq {a b : Kd} (h : a.beq b = true) : a = b := by
 have ik : ∀ {k k' : IntKind}, (k == k') = true → k = k' := fun {k k'} h => eq_of_beq h
 cases a <;> cases b <;> simp only [Kd.beq, Bool.and_eq_true, Bool.false_eq_true] at h
 ·rw [ik h]
 ·rfl
 ·rw [ik h.1, eq_of_beq h.2]
 ·rw [ik h]
 ·rfl
theorem kdsEq_eq : ∀ {a b : List Kd}, kdsEq a b = true → a = b
 | [], [], _ => rfl
 | [], _ :: _, h => by simp [kdsEq] at h
 | _ :: _, [], h => by simp [kdsEq] at h
 | x :: r, y :: s, h => by
  simp only [kdsEq, Bool.and_eq_true] at h
  rw [kd_eq h.1, kdsEq_eq h.2]
def rowCells (L : Loc) (cs : List Col) : List Value := (List.range (L.len * cwidth cs)).map fun q => rowVal L cs 0 (q / cwidth cs) (q % cwidth cs)
theorem divmod {i z t : Nat} (ht : t < z) : (i * z + t) / z = i ∧ (i * z + t) % z = t := by
 have hz : 0 < z := by omega
 rw [Nat.mul_comm i z]
 exact ⟨by rw [Nat.mul_add_div hz, Nat.div_eq_of_lt ht, Nat.add_zero], by rw [Nat.mul_add_mod, Nat.mod_eq_of_lt ht]⟩
theorem cell_lt_len {i n z t : Nat} (hi : i < n) (ht : t < z) : i * z + t < n * z := by
 have : (i + 1) * z ≤ n * z := Nat.mul_le_mul_right _ hi
 rw [Nat.add_mul, Nat.one_mul] at this; omega
theorem rowCells_len (L : Loc) (cs : List Col) : (rowCells L cs).length = L.len * cwidth cs := by simp [rowCells]
theorem rowCells_get {L : Loc} {cs : List Col} {i t : Nat} (hi : i < L.len) (ht : t < cwidth cs) : (rowCells L cs)[i * cwidth cs + t]? = some (rowVal L cs 0 i t) := by
 have := cell_lt_len hi ht
 obtain ⟨h1, h2⟩ := divmod (i := i) ht
 simp [rowCells, this, h1, h2]
theorem rowVal_one {L : Loc} : ∀ {cs : List Col} {c i t : Nat}, t < cwidth cs → (rowVal L cs c i t).oneCell' = true
 | [], _, _, _, h => absurd h (Nat.not_lt_zero _)
 | x :: r, c, i, t, h => by
  have e : cwidth (x :: r) = x.kd.width + cwidth r := rfl
  simp only [rowVal]
  split
  ·cases x <;> rfl
  ·exact rowVal_one (by omega)
theorem rowCells_one (L : Loc) (cs : List Col) (hw : 0 < cwidth cs) : ∀ u ∈ rowCells L cs, u.oneCell' = true := by
 intro u hu
 obtain ⟨q, _, rfl⟩ := List.mem_map.1 hu
 exact rowVal_one (Nat.mod_lt _ hw)
theorem VRep.cell {w : World} {L : Loc} {cs : List Col} (h : VRep w L cs) {j : Nat} {v : Value} (hj : (rowCells L cs)[j]? = some v) : w.cell? (L.at j) = some v := by
 have hlt : j < L.len * cwidth cs := by rw [← rowCells_len]; exact (List.getElem?_eq_some_iff.1 hj).1
 have hm : j % cwidth cs < cwidth cs := Nat.mod_lt _ h.wid
 have hd : j / cwidth cs < L.len := Nat.div_lt_of_lt_mul (by rw [Nat.mul_comm]; exact hlt)
 have e : j / cwidth cs * cwidth cs + j % cwidth cs = j := by rw [Nat.mul_comm]; exact Nat.div_add_mod j _
 have h1 := h.cells _ hd _ hm
 have h2 := rowCells_get (L := L) (cs := cs) hd hm
 rw [e] at h1 h2
 rw [h2] at hj; cases hj
 exact h1
section
variable {P : Program}
theorem VRep.src {w : World} {L : Loc} {cs : List Col} (h : VRep w L cs) {tx : TypeId} (hk : (∃ e', P.underlying tx = some (.slice e')) ∨ P.underlying tx = some .string) : Src P (cwidth cs) tx (.slice L.a L.len L.cap) L.len (rowCells L cs) w := by
 have hone := rowCells_one L cs h.wid
 cases ha : L.a with
 | none =>
  have hl : L.len = 0 := by
   by_cases q : L.len = 0
   ·exact q
   ·have := h.adr q; rw [ha] at this; cases this
  have hr : rowCells L cs = [] := by simp [rowCells, hl]
  rw [hl, hr]
  exact ⟨hk, fun _ => rfl, run_firstCells_none w (cwidth cs) 0 0 L.cap, run_firstCells_none w.drew (cwidth cs) 0 0 L.cap, by simp, fun _ h => by cases h⟩
 | some x =>
  have hnews : ∀ (j : Nat) u, (rowCells L cs)[j]? = some u → w.cell? (x.add j) = some u := ?_
  ·exact ⟨hk, fun _ => rfl, run_firstCells_some w (cwidth cs) L.len x L.len L.cap _ (rowCells_len L cs) hnews, run_firstCells_some w.drew (cwidth cs) L.len x L.len L.cap _ (rowCells_len L cs) (by simpa using hnews), rowCells_len L cs, hone⟩
  intro j u hj
  have hlt : j < L.len * cwidth cs := by rw [← rowCells_len]; exact (List.getElem?_eq_some_iff.1 hj).1
  have hl : L.len ≠ 0 := fun q => by rw [q] at hlt; simp at hlt
  have := h.adr hl
  rw [ha] at this
  cases this
  rw [Loc.at_add, Nat.zero_add]
  exact h.cell hj
theorem VRep.first {w : World} {L : Loc} {cs : List Col} (h : VRep w L cs) : (Builtin.firstCells (cwidth cs) L.len (.slice L.a L.len L.cap)).run P w = .ok (rowCells L cs).toArray w := by
 cases ha : L.a with
 | none =>
  have hl : L.len = 0 := by
   by_cases q : L.len = 0
   ·exact q
   ·have := h.adr q; rw [ha] at this; cases this
  have hr : rowCells L cs = [] := by simp [rowCells, hl]
  rw [hr]
  simpa using run_firstCells_none (P := P) w (cwidth cs) L.len L.len L.cap
 | some x =>
  refine run_firstCells_some w (cwidth cs) L.len x L.len L.cap _ (rowCells_len L cs) (fun j u hj => ?_)
  have hlt : j < L.len * cwidth cs := by rw [← rowCells_len]; exact (List.getElem?_eq_some_iff.1 hj).1
  have hl : L.len ≠ 0 := fun q => by rw [q] at hlt; simp at hlt
  have := h.adr hl
  rw [ha] at this
  cases this
  rw [Loc.at_add, Nat.zero_add]
  exact h.cell hj
end
theorem VRep.firstN {P : Program} {w : World} {L : Loc} {cs : List Col} (h : VRep w L cs) {n : Nat} (hn : n ≤ L.len) : (Builtin.firstCells (cwidth cs) n (.slice L.a L.len L.cap)).run P w = .ok ((rowCells L cs).take (n * cwidth cs)).toArray w := by
 have hle : n * cwidth cs ≤ L.len * cwidth cs := Nat.mul_le_mul_right _ hn
 have hl : ((rowCells L cs).take (n * cwidth cs)).length = n * cwidth cs := by rw [List.length_take, rowCells_len]; omega
 cases ha : L.a with
 | none =>
  have hl : L.len = 0 := by
   by_cases q : L.len = 0
   ·exact q
   ·have := h.adr q; rw [ha] at this; cases this
  have hr : rowCells L cs = [] := by simp [rowCells, hl]
  rw [hr]
  simpa using run_firstCells_none (P := P) w (cwidth cs) n L.len L.cap
 | some x =>
  refine run_firstCells_some w (cwidth cs) n x L.len L.cap _ hl (fun j u hj => ?_)
  rw [List.getElem?_take] at hj
  split at hj
  ·have hlt : j < L.len * cwidth cs := by rw [← rowCells_len]; exact (List.getElem?_eq_some_iff.1 hj).1
   have hl : L.len ≠ 0 := fun q => by rw [q] at hlt; simp at hlt
   have := h.adr hl
   rw [ha] at this
   cases this
   rw [Loc.at_add, Nat.zero_add]
   exact h.cell hj
  ·cases hj
theorem VRep.drew {w : World} {L : Loc} {cs : List Col} (h : VRep w L cs) : VRep w.drew L cs := h.keeps fun _ _ => rfl
theorem lget_cat (a b : List Int) (i : Nat) : lget (lcat a b) i = if i < a.length then lget a i else lget b (i - a.length) := by
 simp only [lget, lcat, List.getD, List.getElem?_append]
 split <;> rfl
theorem lgetb_cat (a b : List Bool) (i : Nat) : lgetb (lcat a b) i = if i < a.length then lgetb a i else lgetb b (i - a.length) := by
 simp only [lgetb, lcat, List.getD, List.getElem?_append]
 split <;> rfl
theorem llget_cat (a b : List (List Int)) (i : Nat) : llget (lcat a b) i = if i < a.length then llget a i else llget b (i - a.length) := by
 simp only [llget, lcat, List.getD, List.getElem?_append]
 split <;> rfl
theorem sgets_cat (a b : List ByteArray) (i : Nat) : sgets (lcat a b) i = if i < a.length then sgets a i else sgets b (i - a.length) := by
 simp only [sgets, lcat, List.getD, List.getElem?_append]
 split <;> rfl
def catEl (L M : Loc) : Nat → Nat → Elt := fun c i => if i < L.len then L.el c i else M.el c (i - L.len)
theorem colVal_cat {L M N : Loc} {x y : Col} (hx : x.ok L.len) (hk : y.kd = x.kd) (hl : isHss x = isHss y) (hN : N.el = catEl L M) (c i j : Nat) : colVal N c (x.cat y) i j = if i < L.len then colVal L c x i j else colVal M c y (i - L.len) j := by
 cases x <;> cases y <;> simp only [isHss, reduceCtorEq, Bool.true_eq_false, Bool.false_eq_true] at hl <;> simp only [Col.kd, reduceCtorEq, Kd.ints.injEq, Kd.arrs.injEq, Kd.rows.injEq] at hk <;> simp only [Col.ok] at hx
 ·subst hk; simp only [Col.cat, colVal, lget_cat, hx]; split <;> rfl
 ·simp only [Col.cat, colVal, lgetb_cat, hx]; split <;> rfl
 ·obtain ⟨rfl, rfl⟩ := hk; simp only [Col.cat, colVal, llget_cat, hx.1]; split <;> rfl
 ·subst hk; simp only [Col.cat, colVal, hN, catEl]; split <;> rfl
 ·simp only [Col.cat, colVal, sgets_cat, hx]; split <;> rfl
 ·subst hk; simp only [Col.cat, colVal, hN, catEl]; split <;> rfl
theorem likeCols_cons {x y : Col} {r s : List Col} (h : likeCols (x :: r) (y :: s) = true) : isHss x = isHss y ∧ likeCols r s = true := by
 simp only [likeCols, Bool.and_eq_true] at h
 exact ⟨eq_of_beq h.1, h.2⟩
theorem cat_kd (x y : Col) : (x.cat y).kd = x.kd := by cases x <;> cases y <;> rfl
theorem catCols_kds : ∀ {cs ds : List Col}, kdsOf cs = kdsOf ds → kdsOf (catCols cs ds) = kdsOf cs
 | [], [], _ => rfl
 | [], _ :: _, h => by simp [kdsOf] at h
 | _ :: _, [], h => by simp [kdsOf] at h
 | x :: r, y :: s, h => by
  simp only [kdsOf, List.map_cons, List.cons.injEq] at h
  have := catCols_kds (cs := r) (ds := s) h.2
  simp only [kdsOf] at this
  simp only [catCols, kdsOf, List.map_cons, cat_kd, this]
theorem rowVal_cat {L M N : Loc} (hN : N.el = catEl L M) : ∀ {cs ds : List Col}, kdsOf cs = kdsOf ds → likeCols cs ds = true → (∀ x ∈ cs, x.ok L.len) → ∀ (c i t : Nat), rowVal N (catCols cs ds) c i t = if i < L.len then rowVal L cs c i t else rowVal M ds c (i - L.len) t
 | [], [], _, _, _ => fun c i t => by simp only [catCols, rowVal]; split <;> rfl
 | [], _ :: _, h, _, _ => by simp [kdsOf] at h
 | _ :: _, [], h, _, _ => by simp [kdsOf] at h
 | x :: r, y :: s, h, hl, hx => fun c i t => by
  simp only [kdsOf, List.map_cons, List.cons.injEq] at h
  have hl := likeCols_cons hl
  have ih := rowVal_cat hN (cs := r) (ds := s) h.2 hl.2 (fun z hz => hx z (List.mem_cons_of_mem _ hz)) (c + 1) i (t - x.kd.width)
  simp only [catCols, rowVal, cat_kd, ← h.1]
  rw [ih, colVal_cat (hx x (by simp)) h.1.symm hl.1 hN]
  by_cases ht : t < x.kd.width
  ·simp only [if_pos ht]
  ·simp only [if_neg ht]
theorem cat_ok {n m : Nat} {x y : Col} (hx : x.ok n) (hy : y.ok m) (hk : y.kd = x.kd) (hl : isHss x = isHss y) : (x.cat y).ok (n + m) := by
 cases x <;> cases y <;> simp only [isHss, reduceCtorEq, Bool.true_eq_false, Bool.false_eq_true] at hl <;> simp only [Col.kd, reduceCtorEq, Kd.ints.injEq, Kd.arrs.injEq, Kd.rows.injEq] at hk <;> simp only [Col.ok] at hx hy <;> simp only [Col.cat, Col.ok, lcat, List.length_append]
 ·omega
 ·omega
 ·obtain ⟨rfl, rfl⟩ := hk
  refine ⟨by omega, fun z hz => ?_⟩
  rcases List.mem_append.1 hz with h | h
  ·exact hx.2 z h
  ·exact hy.2 z h
 ·omega
 ·omega
 ·omega
theorem catCols_ok {n m : Nat} : ∀ {cs ds : List Col}, kdsOf cs = kdsOf ds → likeCols cs ds = true → (∀ x ∈ cs, x.ok n) → (∀ x ∈ ds, x.ok m) → ∀ x ∈ catCols cs ds, x.ok (n + m)
 | [], [], _, _, _, _ => fun x h => by simp [catCols] at h
 | [], _ :: _, h, _, _, _ => by simp [kdsOf] at h
 | _ :: _, [], h, _, _, _ => by simp [kdsOf] at h
 | x :: r, y :: s, h, hl, hx, hy => fun z hz => by
  simp only [kdsOf, List.map_cons, List.cons.injEq] at h
  have hl := likeCols_cons hl
  simp only [catCols, List.mem_cons] at hz
  rcases hz with rfl | hz
  ·exact cat_ok (hx x (by simp)) (hy y (by simp)) h.1.symm hl.1
  ·exact catCols_ok (cs := r) (ds := s) h.2 hl.2 (fun q hq => hx q (List.mem_cons_of_mem _ hq)) (fun q hq => hy q (List.mem_cons_of_mem _ hq)) z hz
theorem catCols_rows : ∀ {cs ds : List Col} {c : Nat} {k : IntKind} {ll : List (List Int)}, (catCols cs ds)[c]? = some (.rows k ll) → kdsOf cs = kdsOf ds → likeCols cs ds = true → ∃ l1 l2, cs[c]? = some (.rows k l1) ∧ ds[c]? = some (.rows k l2) ∧ ll = l1 ++ l2
 | [], [], c, _, _, h, _, _ => by simp [catCols] at h
 | [], _ :: _, _, _, _, _, h, _ => by simp [kdsOf] at h
 | _ :: _, [], _, _, _, _, h, _ => by simp [kdsOf] at h
 | x :: r, y :: s, 0, k, ll, h, hk, hl => by
  simp only [kdsOf, List.map_cons, List.cons.injEq] at hk
  have hl1 := (likeCols_cons hl).1
  simp only [catCols, List.getElem?_cons_zero, Option.some.injEq] at h
  have hk1 := hk.1
  cases x <;> cases y <;> simp only [isHss, reduceCtorEq, Bool.true_eq_false, Bool.false_eq_true] at hl1 <;> simp only [Col.kd, reduceCtorEq, Kd.rows.injEq] at hk1 <;> simp only [Col.cat, reduceCtorEq, Col.rows.injEq] at h
  obtain ⟨rfl, rfl⟩ := h
  subst hk1
  exact ⟨_, _, rfl, rfl, rfl⟩
 | x :: r, y :: s, c + 1, k, ll, h, hk, hl => by
  simp only [kdsOf, List.map_cons, List.cons.injEq] at hk
  simp only [catCols, List.getElem?_cons_succ] at h
  obtain ⟨l1, l2, h1, h2, h3⟩ := catCols_rows (cs := r) (ds := s) h hk.2 (likeCols_cons hl).2
  exact ⟨l1, l2, by simpa using h1, by simpa using h2, h3⟩
theorem catCols_hss : ∀ {cs ds : List Col} {c : Nat} {k : IntKind} {ll : List HS}, (catCols cs ds)[c]? = some (.hss k ll) → kdsOf cs = kdsOf ds → likeCols cs ds = true → ∃ l1 l2, cs[c]? = some (.hss k l1) ∧ ds[c]? = some (.hss k l2) ∧ ll = l1 ++ l2
 | [], [], c, _, _, h, _, _ => by simp [catCols] at h
 | [], _ :: _, _, _, _, _, h, _ => by simp [kdsOf] at h
 | _ :: _, [], _, _, _, _, h, _ => by simp [kdsOf] at h
 | x :: r, y :: s, 0, k, ll, h, hk, hl => by
  simp only [kdsOf, List.map_cons, List.cons.injEq] at hk
  have hl1 := (likeCols_cons hl).1
  simp only [catCols, List.getElem?_cons_zero, Option.some.injEq] at h
  have hk1 := hk.1
  cases x <;> cases y <;> simp only [isHss, reduceCtorEq, Bool.true_eq_false, Bool.false_eq_true] at hl1 <;> simp only [Col.kd, reduceCtorEq, Kd.rows.injEq] at hk1 <;> simp only [Col.cat, reduceCtorEq, Col.hss.injEq] at h
  obtain ⟨rfl, rfl⟩ := h
  subst hk1
  exact ⟨_, _, rfl, rfl, rfl⟩
 | x :: r, y :: s, c + 1, k, ll, h, hk, hl => by
  simp only [kdsOf, List.map_cons, List.cons.injEq] at hk
  simp only [catCols, List.getElem?_cons_succ] at h
  obtain ⟨l1, l2, h1, h2, h3⟩ := catCols_hss (cs := r) (ds := s) h hk.2 (likeCols_cons hl).2
  exact ⟨l1, l2, by simpa using h1, by simpa using h2, h3⟩
theorem Lnk.cat {ρ : Rho} {L M N : Loc} {cs ds : List Col} (hN : N.el = catEl L M) (hk : kdsOf cs = kdsOf ds) (hl : likeCols cs ds = true) (hx : ∀ x ∈ cs, x.ok L.len) (h1 : Lnk ρ L cs) (h2 : Lnk ρ M ds) : Lnk ρ N (catCols cs ds) := by
 intro c k ll hc i d hd
 obtain ⟨l1, l2, g1, g2, rfl⟩ := catCols_hss hc hk hl
 have hl : l1.length = L.len := hx _ (List.mem_of_getElem? g1)
 rw [hN]
 simp only [catEl]
 rw [List.getElem?_append] at hd
 by_cases hi : i < l1.length
 ·rw [if_pos hi] at hd
  rw [if_pos (by omega)]
  exact h1 c k l1 g1 i d hd
 ·rw [if_neg hi, hl] at hd
  rw [if_neg (by omega)]
  exact h2 c k l2 g2 (i - L.len) d hd
theorem asH_kd (σ : Mem) (c : Col) : (c.asH σ).kd = c.kd := by unfold Col.asH; split <;> first | rfl | (split <;> first | rfl | (split <;> rfl))
theorem asH_kds (σ : Mem) (cs : List Col) : kdsOf (cs.map (Col.asH σ)) = kdsOf cs := by simp [kdsOf, Function.comp_def, asH_kd]
theorem asH_ok {σ : Mem} {c : Col} {n : Nat} (h : c.ok n) : (c.asH σ).ok n := by unfold Col.asH; split <;> first | exact h | (split <;> first | exact h | (split <;> exact h))
theorem asH_val (σ : Mem) (L : Loc) (c : Nat) (col : Col) (i j : Nat) : colVal L c (col.asH σ) i j = colVal L c col i j := by unfold Col.asH; split <;> first | rfl | (split <;> first | rfl | (split <;> rfl))
theorem asH_row (σ : Mem) (L : Loc) : ∀ (cs : List Col) (c i t : Nat), rowVal L (cs.map (Col.asH σ)) c i t = rowVal L cs c i t
 | [], _, _, _ => rfl
 | x :: r, c, i, t => by simp only [List.map_cons, rowVal, asH_kd, asH_val, asH_row σ L r]
theorem asH_rows {σ : Mem} {cs : List Col} {c : Nat} {k : IntKind} {ll : List (List Int)} (h : (cs.map (Col.asH σ))[c]? = some (.rows k ll)) : cs[c]? = some (.rows k ll) := by
 simp only [List.getElem?_map, Option.map_eq_some_iff] at h
 obtain ⟨x, hx, h⟩ := h
 rw [hx]
 unfold Col.asH at h
 split at h
 ·split at h
  ·split at h
   ·cases h
   ·exact congrArg some h
  ·exact congrArg some h
 ·exact congrArg some h
theorem asH_hss {σ : Mem} {cs : List Col} {c : Nat} {k : IntKind} {ll : List HS} (h : (cs.map (Col.asH σ))[c]? = some (.hss k ll)) : cs[c]? = some (.hss k ll) ∨ ll = [] := by
 simp only [List.getElem?_map, Option.map_eq_some_iff] at h
 obtain ⟨x, hx, h⟩ := h
 rw [hx]
 unfold Col.asH at h
 split at h
 ·split at h
  ·split at h
   ·cases h; exact Or.inr rfl
   ·cases h
  ·cases h
 ·exact Or.inl (congrArg some h)
theorem asH_cwidth (σ : Mem) (cs : List Col) : cwidth (cs.map (Col.asH σ)) = cwidth cs := by simp [cwidth, asH_kds]
theorem VRep.asH {σ : Mem} {w : World} {L : Loc} {cs : List Col} (h : VRep w L cs) : VRep w L (cs.map (Col.asH σ)) :=
 ⟨by simpa using h.ne, by rw [asH_cwidth]; exact h.wid, fun x hx => by
  obtain ⟨y, hy, rfl⟩ := List.mem_map.1 hx; exact asH_ok (h.ok y hy), h.cap, h.adr, fun i hi t ht => by
  rw [asH_cwidth] at ht ⊢; rw [asH_row]; exact h.cells i hi t ht, fun c k ll hc => h.inner c k ll (asH_rows hc)⟩
theorem Lnk.asH {σ : Mem} {ρ : Rho} {L : Loc} {cs : List Col} (h : Lnk ρ L cs) : Lnk ρ L (cs.map (Col.asH σ)) := fun c k ll hc i d hd => by
 rcases asH_hss hc with h1 | rfl
 ·exact h c k ll h1 i d hd
 ·simp at hd
theorem Inner.ofAsH {σ : Mem} {L : Loc} {cs : List Col} {k : Nat} (h : Inner L (cs.map (Col.asH σ)) k) : Inner L cs k := by
 obtain ⟨c, kk, ll, i, l, a, h1, h2⟩ := h
 exact ⟨c, kk, ll, i, l, a, asH_rows h1, h2⟩
theorem inner_cat {L M N : Loc} {cs ds : List Col} {k : Nat} (hN : N.el = catEl L M) (hk : kdsOf cs = kdsOf ds) (hlk : likeCols cs ds = true) (hx : ∀ x ∈ cs, x.ok L.len) (h : Inner N (catCols cs ds) k) : Inner L cs k ∨ Inner M ds k := by
 obtain ⟨c, kk, ll, i, l, a, h1, h2, h3, h4, h5⟩ := h
 obtain ⟨l1, l2, g1, g2, rfl⟩ := catCols_rows h1 hk hlk
 have hl : l1.length = L.len := hx _ (List.mem_of_getElem? g1)
 rw [hN] at h4
 simp only [catEl] at h4
 rw [List.getElem?_append] at h2
 by_cases hi : i < l1.length
 ·rw [if_pos hi] at h2
  rw [if_pos (by omega)] at h4
  exact Or.inl ⟨c, kk, l1, i, l, a, g1, h2, h3, h4, h5⟩
 ·rw [if_neg hi] at h2
  rw [if_neg (by omega)] at h4
  rw [hl] at h2
  exact Or.inr ⟨c, kk, l2, i - L.len, l, a, g2, h2, h3, h4, h5⟩
theorem cat_rep {w w' : World} {L M N : Loc} {cs ds : List Col} (h1 : VRep w L cs) (h2o : ∀ x ∈ ds, x.ok M.len) (h2i : ∀ c k ll, ds[c]? = some (Col.rows k ll) → ∀ i l, ll[i]? = some l → EltRep w (M.el c i) k l) (hk : kdsOf cs = kdsOf ds) (hlk : likeCols cs ds = true) (hN : N.el = catEl L M) (hlen : N.len = L.len + M.len) (hcap : N.len ≤ N.cap) (hadr : N.len ≠ 0 → N.a = some (N.at 0))
  (hc : ∀ (j : Nat) v, (rowCells L cs ++ rowCells M ds)[j]? = some v → w'.cell? (N.at j) = some v) (hs1 : ∀ k, Inner L cs k → w'.heap[k]? = w.heap[k]?) (hs2 : ∀ k, Inner M ds k → w'.heap[k]? = w.heap[k]?) : VRep w' N (catCols cs ds) := by
 have hwd : cwidth (catCols cs ds) = cwidth cs := by simp [cwidth, catCols_kds hk]
 have hwd2 : cwidth ds = cwidth cs := by simp [cwidth, hk]
 have elt : ∀ {e : Elt} {k : IntKind} {l : List Int}, EltRep w e k l → (∀ a, l ≠ [] → e.a = some a → w'.heap[a.block]? = w.heap[a.block]?) → EltRep w' e k l := by
  intro e k l ⟨q1, q2, q3, q4⟩ hh
  refine ⟨q1, q2, q3, fun j x hx a ha => ?_⟩
  have hb : (a.add j).block = a.block := by unfold Addr.add; split <;> rfl
  have := hh a (fun e => by subst e; simp at hx) ha
  exact (cell_same (a := a.add j) (by rw [hb]; exact this)).trans (q4 j x hx a ha)
 refine ⟨fun e => by rw [e] at hwd; have := h1.wid; rw [← hwd] at this; exact absurd this (by decide), by rw [hwd]; exact h1.wid, ?_, hcap, hadr, fun i hi t ht => ?_, fun c k ll hcc i l hl => ?_⟩
 ·rw [hlen]; exact catCols_ok hk hlk h1.ok h2o
 ·rw [hwd] at ht ⊢
  rw [rowVal_cat hN hk hlk h1.ok]
  refine hc _ _ ?_
  rw [List.getElem?_append, rowCells_len]
  by_cases hlt : i < L.len
  ·rw [if_pos hlt, if_pos (cell_lt_len hlt ht)]
   exact rowCells_get hlt ht
  ·have hge : L.len * cwidth cs ≤ i * cwidth cs := Nat.mul_le_mul_right _ (by omega)
   rw [if_neg hlt, if_neg (by omega)]
   have e : i * cwidth cs + t - L.len * cwidth cs = (i - L.len) * cwidth ds + t := by rw [hwd2, Nat.sub_mul]; omega
   rw [e]
   exact rowCells_get (by omega) (by rw [hwd2]; exact ht)
 ·obtain ⟨l1, l2, g1, g2, rfl⟩ := catCols_rows hcc hk hlk
  have hl1 : l1.length = L.len := h1.ok _ (List.mem_of_getElem? g1)
  rw [List.getElem?_append] at hl
  rw [hN]
  simp only [catEl]
  by_cases hlt : i < L.len
  ·rw [if_pos (by omega)] at hl
   rw [if_pos hlt]
   exact elt (h1.inner c k l1 g1 i l hl) fun a hne ha => hs1 _ ⟨c, k, l1, i, l, a, g1, hl, hne, ha, rfl⟩
  ·rw [if_neg (by omega), hl1] at hl
   rw [if_neg hlt]
   exact elt (h2i c k l2 g2 (i - L.len) l hl) fun a hne ha => hs2 _ ⟨c, k, l2, i - L.len, l, a, g2, hl, hne, ha, rfl⟩
section
variable {P : Program} {E : Env} {ρ : Rho} {fr : Fr} {σ : Mem} {a : Act} {w : World}
theorem find_ins {d : Nat} {b : Blk} : ∀ {σ : Mem}, memRefs d σ = false → ∀ n, Mem.find (Mem.ins d b σ) n = Mem.find ((d, b) :: σ) n
 | [], _, n => rfl
 | (m, x) :: r, h, n => by
  have hm : m ≠ d := by
   intro e
   simp [memRefs, e] at h
  have hr : memRefs d r = false := by
   simp only [memRefs, List.any_cons, Bool.or_eq_false_iff] at h ⊢
   exact h.2
  simp only [Mem.ins]
  split
  ·have ih := find_ins (b := b) hr n
   simp only [Mem.find] at ih ⊢
   rw [ih]
   by_cases e1 : m = n
   ·rw [if_pos e1, if_neg (fun e => hm (e1.trans e.symm)), if_pos e1]
   ·rw [if_neg e1, if_neg e1]
  ·rfl
theorem Rep.find_eq {σ' : Mem} (h : Rep E ρ fr σ a w) (hf : ∀ n, Mem.find σ' n = Mem.find σ n) : Rep E ρ fr σ' a w :=
 h.less h.fr fun n b hb => by rw [← hf]; exact hb
theorem freshB_parts {d : Nat} {fr : Fr} {σ : Mem} (h : freshB d fr σ = true) : d < 200000 ∧ frRefs d fr = false ∧ memRefs d σ = false := by
 simp only [freshB, Bool.and_eq_true, Bool.not_eq_true', decide_eq_true_eq] at h
 exact ⟨h.1.1, h.1.2, h.2⟩
theorem freshB_find {d : Nat} {fr : Fr} {σ : Mem} (h : freshB d fr σ = true) : ∀ m b, Mem.find σ m = some b → m ≠ d := fun m b hm => (memRefs_out (freshB_parts h).2.2 hm).1
theorem newvec {d : Nat} {L : Loc} {cs : List Col} {w' : World} {C : Array Value} {T : TypeId} {fz : Nat × Nat} (h : Rep E ρ fr σ a w) (hd : freshB d fr σ = true) (hw : w'.heap = w.heap.push (.cells C T fz)) (h1 : w'.os = w.os) (h2 : w'.tape = w.tape) (h3 : w'.output = w.output)
  (hV : VRep w' L cs) (hLk : Lnk ρ L cs) (hcr : cs.any (Col.refs d) = false) (hb : L.1 = w.heap.size) (ho : L.2 = 0) (ha : L.a = some (L.at 0)) (hsz : L.cap * cwidth cs ≤ C.size) (hfz : ∀ j, j < C.size → ¬ (fz.1 ≤ j ∧ j < fz.2)) (hin : ∀ k, Inner L cs k → Clean ρ σ k ∧ k < w.heap.size) :
  Rep E (upd ρ d L) fr (Mem.ins d (.vec cs) σ) a w' := by
 have old : ∀ {k}, k < w.heap.size → w'.heap[k]? = w.heap[k]? := fun hk => by rw [hw, Array.getElem?_push, if_neg (by omega)]
 have new : w'.heap[w.heap.size]? = some (.cells C T fz) := by rw [hw]; simp
 have hsize : w'.heap.size = w.heap.size + 1 := by rw [hw]; simp
 have hlt : ∀ {m c k}, Mem.find σ m = some c → Foot ρ m c k → k < w.heap.size := fun hm hk => in_range (h.mem _ _ hm) hk
 refine (add_sound (b := .vec cs) h hd ⟨h1.trans h.keep.os, h2.trans h.keep.tape, h3.trans h.keep.output, by rw [hsize]; have := h.keep.size; omega, fun k hk hx => by rw [old (by have := h.keep.size; omega)]; exact h.keep.block k hk hx⟩ (fun m c k hm hk => old (hlt hm hk))
  ⟨by rw [upd_eq]; exact hV, by rw [upd_eq]; exact fun _ => ⟨ha, C, T, fz, by rw [hb]; exact new, by rw [ho]; omega, hfz⟩, by rw [upd_eq]; exact hLk.agree (ne_of_refs (f := fun m => cs.any (Col.refs m)) hcr)⟩ (fun k hk => ?_) (fun k hk => ?_)).find_eq (find_ins (freshB_parts hd).2.2)
 ·simp only [Out, upd_eq] at hk
  obtain ⟨_, rfl⟩ := hk
  rw [hb]
  refine ⟨Or.inl h.keep.size, fun m c hm hk => by have := hlt hm hk; omega, fun q => ?_⟩
  simp only [Inn, upd_eq] at q
  have := (hin _ q).2
  omega
 ·simp only [Foot, upd_eq] at hk
  rcases hk with ⟨_, rfl⟩ | hk
  ·rw [hb]; exact fun m c hm hO => by have := hlt hm hO.foot; omega
  ·exact (hin k hk).1
theorem ins_old {d : Nat} {b : Blk} (hd : freshB d fr σ = true) : ∀ m c, Mem.find σ m = some c → Mem.find (Mem.ins d b σ) m = some c := fun m c hm => by
 rw [find_ins (freshB_parts hd).2.2]
 simp only [Mem.find]
 rw [if_neg (Ne.symm (freshB_find hd m c hm))]; exact hm
theorem zero_row {L : Loc} {n i : Nat} (hL : ∀ c i, L.el c i = ⟨none, 0, 0⟩) (hi : i < n) : ∀ {ks : List Kd} {z : List Value} {c t : Nat}, zeroIs ks z = true → t < width ks → z[t]? = some (rowVal L (ks.map (Kd.zero n)) c i t)
 | [], _, _, t, _, ht => absurd ht (Nat.not_lt_zero _)
 | k :: r, z, c, t, h, ht => by
  have ik : ∀ {k k' : IntKind}, (k == k') = true → k = k' := fun {k k'} h => eq_of_beq h
  have kd : (Kd.zero n k).kd = k := by cases k <;> rfl
  have hw : width (k :: r) = k.width + width r := rfl
  simp only [List.map_cons, rowVal, kd]
  cases k with
  | ints k =>
   cases z with
   | nil => simp [zeroIs] at h
   | cons v z =>
    simp only [zeroIs, Bool.and_eq_true] at h
    have e : (Kd.ints k).width = 1 := rfl
    rw [e] at hw ⊢
    cases t with
    | zero =>
     rw [if_pos (by omega)]
     cases v <;> simp [isZeroInt] at h
     obtain ⟨⟨h1, h2⟩, h3⟩ := h
     subst h1 h2
     simp [colVal, Kd.zero, lzeros, lget, List.getD, hi]
    | succ t =>
     rw [if_neg (by omega)]
     simp only [List.getElem?_cons_succ, Nat.add_sub_cancel]
     exact zero_row hL hi h.2 (by omega)
  | bools =>
   cases z with
   | nil => simp [zeroIs] at h
   | cons v z =>
    simp only [zeroIs, Bool.and_eq_true] at h
    have e : Kd.bools.width = 1 := rfl
    rw [e] at hw ⊢
    cases t with
    | zero =>
     rw [if_pos (by omega)]
     cases v <;> simp at h
     obtain ⟨h1, h3⟩ := h
     subst h1
     simp [colVal, Kd.zero, bzeros, lgetb, List.getD, hi]
    | succ t =>
     rw [if_neg (by omega)]
     simp only [List.getElem?_cons_succ, Nat.add_sub_cancel]
     exact zero_row hL hi h.2 (by omega)
  | rows k =>
   cases z with
   | nil => simp [zeroIs] at h
   | cons v z =>
    simp only [zeroIs, Bool.and_eq_true] at h
    have e : (Kd.rows k).width = 1 := rfl
    rw [e] at hw ⊢
    cases t with
    | zero =>
     rw [if_pos (by omega)]
     obtain ⟨h1, h3⟩ := h
     have : v = .slice none 0 0 := by
      split at h1
      ·rfl
      ·cases h1
     subst this
     simp [colVal, Kd.zero, hL]
    | succ t =>
     rw [if_neg (by omega)]
     simp only [List.getElem?_cons_succ, Nat.add_sub_cancel]
     exact zero_row hL hi h.2 (by omega)
  | strs =>
   cases z with
   | nil => simp [zeroIs] at h
   | cons v z =>
    simp only [zeroIs, Bool.and_eq_true] at h
    have e : Kd.strs.width = 1 := rfl
    rw [e] at hw ⊢
    cases t with
    | zero =>
     rw [if_pos (by omega)]
     obtain ⟨h1, h3⟩ := h
     cases v <;> simp at h1
     subst h1
     simp [colVal, Kd.zero, szeros, sgets, List.getD, hi]
    | succ t =>
     rw [if_neg (by omega)]
     simp only [List.getElem?_cons_succ, Nat.add_sub_cancel]
     exact zero_row hL hi h.2 (by omega)
  | arrs k m =>
   have h : (Nat.ble m z.length = true ∧ (z.take m).all (isZeroInt k) = true) ∧ zeroIs r (z.drop m) = true := by
    cases z <;> (simp only [zeroIs, Bool.and_eq_true] at h; exact h)
   obtain ⟨⟨h1, h2⟩, h3⟩ := h
   have e : (Kd.arrs k m).width = m := rfl
   rw [e] at hw ⊢
   by_cases hlt : t < m
   ·rw [if_pos hlt]
    have hl : m ≤ z.length := Nat.le_of_ble_eq_true h1
    have hv := List.all_eq_true.1 h2 z[t] (by rw [List.mem_iff_getElem?]; exact ⟨t, by rw [List.getElem?_take, if_pos hlt]; exact List.getElem?_eq_getElem (by omega)⟩)
    rw [List.getElem?_eq_getElem (by omega)]
    generalize z[t] = v at hv
    cases v <;> simp [isZeroInt] at hv
    obtain ⟨q1, q2⟩ := hv
    subst q1 q2
    simp [colVal, Kd.zero, azeros, llget, lget, List.getD, hi, hlt]
   ·rw [if_neg hlt]
    have := zero_row hL hi (c := c + 1) (t := t - m) h3 (by omega)
    rw [List.getElem?_drop, show m + (t - m) = t by omega] at this
    exact this
theorem zero_kds (ks : List Kd) (n : Nat) : kdsOf (ks.map (Kd.zero n)) = ks := by
 induction ks with
 | nil => rfl
 | cons k r ih => cases k <;> simp_all [kdsOf, Kd.zero, Col.kd]
theorem zero_ok (ks : List Kd) (n : Nat) : ∀ x ∈ ks.map (Kd.zero n), x.ok n := by
 intro x hx
 obtain ⟨k, _, rfl⟩ := List.mem_map.1 hx
 cases k <;> simp [Kd.zero, Col.ok, lzeros, bzeros, azeros, rzeros, szeros]
theorem zeroH_kd (σ : Mem) (n : Nat) (k : Kd) : (Kd.zeroH σ n k).kd = (Kd.zero n k).kd := by unfold Kd.zeroH; split <;> first | (split <;> rfl) | rfl
theorem zeroH_ok {σ : Mem} {n m : Nat} {k : Kd} (h : (Kd.zero n k).ok m) : (Kd.zeroH σ n k).ok m := by
 unfold Kd.zeroH
 split
 ·split
  ·have h : (rzeros n).length = m := h
   show (hzeros n).length = m
   simpa [hzeros, rzeros] using h
  ·exact h
 ·exact h
theorem zeroH_val (σ : Mem) (L : Loc) (c n i j : Nat) (k : Kd) : colVal L c (Kd.zeroH σ n k) i j = colVal L c (Kd.zero n k) i j := by unfold Kd.zeroH; split <;> first | (split <;> rfl) | rfl
theorem zeroH_row (σ : Mem) (L : Loc) (n : Nat) : ∀ (ks : List Kd) (c i t : Nat), rowVal L (ks.map (Kd.zeroH σ n)) c i t = rowVal L (ks.map (Kd.zero n)) c i t
 | [], _, _, _ => rfl
 | x :: r, c, i, t => by simp only [List.map_cons, rowVal, zeroH_kd, zeroH_val, zeroH_row σ L n r]
theorem zeroH_kds (σ : Mem) (n : Nat) (ks : List Kd) : kdsOf (ks.map (Kd.zeroH σ n)) = ks := by
 have := zero_kds ks n
 simp only [kdsOf, List.map_map, Function.comp_def, zeroH_kd] at this ⊢
 exact this
theorem zeroH_rows {σ : Mem} {n : Nat} {ks : List Kd} {c : Nat} {k : IntKind} {ll : List (List Int)} (h : (ks.map (Kd.zeroH σ n))[c]? = some (.rows k ll)) : (ks.map (Kd.zero n))[c]? = some (.rows k ll) := by
 simp only [List.getElem?_map, Option.map_eq_some_iff] at h ⊢
 obtain ⟨x, hx, h⟩ := h
 refine ⟨x, hx, ?_⟩
 unfold Kd.zeroH at h
 split at h <;> first | (split at h <;> first | (cases h; done) | exact h) | exact h
theorem zeroH_hss {σ : Mem} {n : Nat} {ks : List Kd} {c : Nat} {k : IntKind} {ll : List HS} (h : (ks.map (Kd.zeroH σ n))[c]? = some (.hss k ll)) : ll = hzeros n ∧ ∃ os, Mem.heap σ k = some os := by
 simp only [List.getElem?_map, Option.map_eq_some_iff] at h
 obtain ⟨x, hx, h⟩ := h
 unfold Kd.zeroH at h
 split at h
 ·split at h
  ·rename_i os ho; cases h; exact ⟨rfl, os, ho⟩
  ·cases h
 ·cases x <;> cases h
theorem VRep.zeroH {σ : Mem} {w : World} {L : Loc} {n : Nat} {ks : List Kd} (h : VRep w L (ks.map (Kd.zero n))) : VRep w L (ks.map (Kd.zeroH σ n)) := by
 have e : cwidth (ks.map (Kd.zeroH σ n)) = cwidth (ks.map (Kd.zero n)) := by simp only [cwidth, zeroH_kds, zero_kds]
 exact ⟨by simpa using h.ne, by rw [e]; exact h.wid, fun x hx => by
  obtain ⟨y, hy, rfl⟩ := List.mem_map.1 hx; exact zeroH_ok (h.ok _ (List.mem_map.2 ⟨y, hy, rfl⟩)), h.cap, h.adr, fun i hi t ht => by
  rw [e] at ht ⊢; rw [zeroH_row]; exact h.cells i hi t ht, fun c k ll hc => h.inner c k ll (zeroH_rows hc)⟩
theorem crep_nil {ρ : Rho} {σ : Mem} {w : World} {k : IntKind} {os : List (List Int)} (hm : MemRep ρ σ w) (h : Mem.heap σ k = some os) : CRep ρ (.hs k 0 0 0) (.slice none 0 0) := by
 obtain ⟨_, hH⟩ := hm _ _ (heap_find h)
 have hn := hH.n
 have hp := hH.pos
 have hz := hH.zero
 exact ⟨none, 0, rfl, Nat.le_refl _, Nat.zero_le _, by omega, Or.inl rfl, by omega, fun q => absurd hz q⟩
theorem Lnk.zeroH {ρ : Rho} {σ : Mem} {w : World} {L : Loc} {n : Nat} {ks : List Kd} (hm : MemRep ρ σ w) (hL : ∀ c i, L.el c i = ⟨none, 0, 0⟩) : Lnk ρ L (ks.map (Kd.zeroH σ n)) := by
 intro c k ll hc i x hx
 obtain ⟨rfl, os, ho⟩ := zeroH_hss hc
 simp only [hzeros, List.getElem?_replicate] at hx
 split at hx <;> simp at hx
 subst hx
 rw [hL]
 exact crep_nil hm ho
theorem refs_no {cs : List Col} {d : Nat} (hd : d < 200000) : cs.any (Col.refs d) = false := by
 rw [List.any_eq_false]
 intro x _
 cases x with
 | hss k l => have := isHeap_le (isHeap_hname k); simp only [Col.refs, beq_iff_eq]; omega
 | _ => simp [Col.refs]
theorem zero_len : ∀ {ks : List Kd} {z : List Value}, zeroIs ks z = true → z.length = width ks := by
  intro ks
  induction ks with
  | nil => intro z h; cases z <;> simp [zeroIs] at h; rfl
  | cons k r ih =>
   intro z h
   have hw : width (k :: r) = k.width + width r := rfl
   cases k with
   | arrs k m =>
    have h : (Nat.ble m z.length = true ∧ (z.take m).all (isZeroInt k) = true) ∧ zeroIs r (z.drop m) = true := by
     cases z <;> (simp only [zeroIs, Bool.and_eq_true] at h; exact h)
    have h1 := Nat.le_of_ble_eq_true h.1.1
    have := ih h.2
    rw [List.length_drop] at this
    rw [hw]; show z.length = m + width r
    omega
   | _ =>
    cases z with
    | nil => simp [zeroIs] at h
    | cons v z =>
     simp only [zeroIs, Bool.and_eq_true] at h
     have := ih h.2
     rw [hw]; simp only [List.length_cons, this, Kd.width]; omega
theorem make_sound {t e : TypeId} {ks : List Kd} {bytes : Nat} {A B : Int} {kl kc : IntKind} {d : Nat} (h : Rep E ρ fr σ a w) (hu : P.underlying t = some (.slice e)) (hk : elemKinds P e = some (ks, bytes)) (hm : Mk A B bytes) (hd : freshB d fr σ = true) :
    ∃ w' L, (Instr.makeSlice t (.int kl A) (.int kc B)).run P w = .ok (.slice L.a L.len L.cap) w' ∧ w.heap.size ≤ w'.heap.size ∧ Keeps (fun _ => False) w w' ∧ Rep E (upd ρ d L) fr (Mem.ins d (.vec (ks.map (Kd.zeroH σ (nat A)))) σ) a w' := by
  obtain ⟨i, z, hi, hz, hzero, hsize, hwid, hbytes, _⟩ := elemKinds_sound hk
  have h0 := hm.lo; have h1 := hm.le; have h2 := hm.hi; have h3 := hm.c63
  have hrun := run_make (P := P) w t e i z hu hi hz kl kc A B h0 h1 (by rw [hbytes, Int.mul_comm]; exact h2) h3
  have kds := zero_kds ks (nat A)
  have hcw : cwidth (ks.map (Kd.zero (nat A))) = width ks := by rw [cwidth, kds]
  have hcwH : cwidth (ks.map (Kd.zeroH σ (nat A))) = width ks := by rw [cwidth, zeroH_kds]
  let L : Loc := ⟨w.heap.size, 0, some ⟨w.heap.size, 0, none⟩, A.toNat, B.toNat, fun _ _ => ⟨none, 0, 0⟩⟩
  have hsz : (madeCells z.cells (B.toNat * i.size)).size = B.toNat * i.size := size_madeCells _ _
  refine ⟨_, L, hrun, by show _ ≤ (w.heap.push _).size; simp, ⟨rfl, rfl, rfl, by show _ ≤ (w.heap.push _).size; simp, fun k hk _ => with_old (o := .cells _ e) hk⟩, newvec (L := L) h hd (w' := w.alloc (.cells (madeCells z.cells (B.toNat * i.size)) e)) (C := madeCells z.cells (B.toNat * i.size)) (T := e) (fz := (0, 0)) rfl rfl rfl rfl (VRep.zeroH ?_) (Lnk.zeroH h.mem fun _ _ => rfl) (refs_no (freshB_parts hd).1) rfl rfl rfl (by rw [hcwH, hsz, hsize]; exact Nat.le_refl _) (fun j _ => by simp) (fun k hk => ?_)⟩
  · refine ⟨fun q => by have : ks = [] := by simpa using q
                        subst this; exact absurd hwid (by decide), by rw [hcw]; exact hwid, zero_ok ks _, by show A.toNat ≤ B.toNat; omega, fun _ => rfl, fun r hr t ht => ?_, fun c k ll hc r l hl => ?_⟩
    · rw [hcw] at ht ⊢
      have hr' : r < A.toNat := hr
      have hlt : r * width ks + t < B.toNat * i.size := by rw [hsize]; exact cell_lt_len (by omega) ht
      have hzl := zero_len hzero
      have zr := zero_row (L := L) (n := nat A) (i := r) (fun _ _ => rfl) hr' (c := 0) hzero ht
      have hcell : (madeCells z.cells (B.toNat * i.size))[r * width ks + t]? = some (z.cells[t]!) := by
        have hs : z.cells.size = width ks := by rw [← hzl]; simp
        simp [madeCells, hlt, hs, (divmod (i := r) ht).2]
      have hnew : (w.alloc (.cells (madeCells z.cells (B.toNat * i.size)) e)).heap[w.heap.size]? = some (.cells (madeCells z.cells (B.toNat * i.size)) e) := by
        show (w.heap.push _)[w.heap.size]? = _
        simp
      have : (w.alloc (.cells (madeCells z.cells (B.toNat * i.size)) e)).cell? (L.at (r * width ks + t)) = some (z.cells[t]!) := by
        simp only [World.cell?, Loc.at, L, hnew, Option.isSome_none, Bool.false_eq_true, if_false, Nat.zero_add]
        exact hcell
      rw [this]
      rw [Array.getElem?_toList] at zr
      have hs : t < z.cells.size := by rw [← Array.length_toList, hzl]; exact ht
      rw [Array.getElem?_eq_getElem hs] at zr
      rw [getElem!_pos z.cells t hs]
      exact zr
    · simp only [List.getElem?_map, Option.map_eq_some_iff] at hc
      obtain ⟨kd, _, hkd⟩ := hc
      cases kd <;> simp [Kd.zero] at hkd
      obtain ⟨_, rfl⟩ := hkd
      have : l = [] := by
        simp only [rzeros, List.getElem?_replicate] at hl
        split at hl <;> simp at hl
        exact hl
      subst this
      exact ⟨rfl, Nat.le_refl _, fun q => absurd rfl q, fun j x hx => by simp at hx⟩
  · obtain ⟨c, kk, ll, r, l, A', hc, hl, hne, _⟩ := hk
    have hc := zeroH_rows hc
    simp only [List.getElem?_map, Option.map_eq_some_iff] at hc
    obtain ⟨kd, _, hkd⟩ := hc
    cases kd <;> simp [Kd.zero] at hkd
    obtain ⟨_, rfl⟩ := hkd
    simp only [rzeros, List.getElem?_replicate] at hl
    split at hl <;> simp at hl
    exact absurd hl hne
end
theorem not_inner_ints {L : Loc} {k : IntKind} {l : List Int} {b : Nat} : ¬ Inner L [.ints k l] b := by
 rintro ⟨c, kk, ll, i, l', a, hc, _⟩
 cases c <;> simp at hc
theorem reads_vec {ρ : Rho} {σ : Mem} {w : World} {n : Nat} {cs : List Col} {v : Value} (hm : MemRep ρ σ w) (hs : Sep ρ σ) (hcs : Mem.cols σ n = some cs) (hx : CRep ρ (.vec n) v) : Reads ρ σ w v cs (ρ n) := by
 obtain ⟨h1, b, hb, hbb, hf⟩ := cols_sound hm hcs
 refine ⟨hx, h1, fun k hk => hs.inn hb ?_, cols_lnk hm hcs, fun q => hs.root hb (hf _ (Or.inl ⟨q, rfl⟩))⟩
 rcases hbb with rfl | rfl <;> exact hk
theorem vsl_vcl {ρ : Rho} {n z i len : Nat} {v : Value} (h : CRep ρ (.vsl n z i len) v) : CRep ρ (.vcl n z i len) v := by
 obtain ⟨A, cap, h1, h2, h3, h4, h5, _⟩ := h
 exact ⟨A, cap, h1, h2, h3, h4, h5⟩
theorem reads_vsl {ρ : Rho} {σ : Mem} {w : World} {n z i len : Nat} {cs : List Col} {v : Value} (hm : MemRep ρ σ w) (hs : Sep ρ σ) (hcs : Mem.cols σ n = some cs) (hz : z = cwidth cs) (hx : CRep ρ (.vcl n z i len) v) :
  ∃ A cap, Reads ρ σ w v (cs.map (Col.sub i len)) ((ρ n).sub (cwidth cs) i len A cap) ∧ (cap = 0 ∨ (i + cap ≤ (ρ n).cap ∧ A = (ρ n).a.map (·.add (i * cwidth cs)))) := by
 subst hz
 obtain ⟨h1, b, hb, hbb, hf⟩ := cols_sound hm hcs
 obtain ⟨A, cap, rfl, h2, h3, h4, _⟩ := hx
 refine ⟨A, cap, ⟨rfl, h1.sub h3 h2 (fun q => ?_), fun k hk => hs.inn hb ?_, (cols_lnk hm hcs).sub, fun q => hs.root hb (hf _ (Or.inl ⟨by have : len ≠ 0 := q; omega, rfl⟩))⟩, h4⟩
 ·have q' : len ≠ 0 := q
  rcases h4 with h4 | ⟨_, rfl⟩
  ·omega
  ·rw [h1.adr (by omega), Option.map_some, Loc.at_add, Nat.zero_add]
 ·have := hk.sub
  rcases hbb with rfl | rfl <;> exact this
theorem reads_sl {ρ : Rho} {σ : Mem} {w : World} {n base idx len cap N : Nat} {k : IntKind} {l : List Int} {b : Blk} {v : Value} (hm : MemRep ρ σ w) (hs : Sep ρ σ) (hb : Mem.find σ n = some b) (hf : findSeg b.segs base = some (.ints k N l)) (hle : idx + len ≤ N) (hx : CRep ρ (.sl n base idx len cap) v) :
  ∃ L, Reads ρ σ w v [.ints k (lsub l idx len)] L ∧ (L.cap ≠ 0 → L.cap = cap ∧ L.1 = (ρ n).1 ∧ L.2 = (ρ n).2 + (base + idx) ∧ L.a = some (L.at 0)) := by
 obtain ⟨ho, hc⟩ := (hm n b hb).cells
 obtain ⟨h1, h2⟩ := cells_ints ho hc hf hle
 obtain ⟨hlc, hx⟩ := hx
 have hlen := lsub_len l idx len (by omega)
 have foot : len ≠ 0 → Foot ρ n b (ρ n).1 := fun q => by
  have hne : flat b.segs ≠ [] := fun e => by
   have := findSeg_len hf
   have hl := flat_length ho
   rw [e] at hl
   simp only [Seg.len] at this
   simp at hl; omega
  cases b with
  | own T s => rfl
  | view s => exact ⟨hne, rfl⟩
  | vec cs => exact absurd rfl hne
  | rview cs => exact absurd rfl hne
  | heap k os => exact absurd rfl hne
  | map kk m => exact absurd rfl hne
 rcases hx with rfl | ⟨rfl, rfl, a, rfl⟩
 ·refine ⟨⟨(ρ n).1, (ρ n).2 + (base + idx), some (at_ ρ n (base + idx)), len, cap, fun _ _ => ⟨none, 0, 0⟩⟩, ⟨rfl, .ofInts hlen hlc (fun _ => rfl) (fun j x hx => ?_), fun k hk => absurd hk not_inner_ints, lnk_ints, fun q => hs.root hb (foot q)⟩, fun _ => ⟨rfl, rfl, rfl, rfl⟩⟩
  have := h2 j x hx
  simp only [at_, Loc.at] at this ⊢
  rw [← this]; congr 2; omega
 ·exact ⟨⟨0, 0, a, 0, 0, fun _ _ => ⟨none, 0, 0⟩⟩, ⟨rfl, .ofInts hlen (Nat.le_refl _) (fun q => absurd rfl q) (fun j x hx => by rw [lsub_get] at hx; simp at hx), fun k hk => absurd hk not_inner_ints, lnk_ints, fun q => absurd rfl q⟩, fun q => absurd rfl q⟩
theorem writable_sub {w : World} {L : Loc} {z i len cap : Nat} {A : Option Addr} (h : Writable w L z) (hA : cap = 0 ∨ (i + cap ≤ L.cap ∧ A = L.a.map (·.add (i * z)))) : Writable w (L.sub z i len A cap) z := by
 intro hc
 have hc' : cap ≠ 0 := hc
 rcases hA with hA | ⟨h1, h2⟩
 ·exact absurd hA hc'
 ·obtain ⟨g1, c, T, fz, g2, g3, g4⟩ := h (by omega)
  refine ⟨by show A = some (L.at (i * z)); rw [h2, g1, Option.map_some, Loc.at_add, Nat.zero_add], c, T, fz, g2, ?_, g4⟩
  show L.2 + i * z + cap * z ≤ c.size
  have : (i + cap) * z ≤ L.cap * z := Nat.mul_le_mul_right _ h1
  rw [Nat.add_mul] at this; omega
section
variable {P : Program} {E : Env} {ρ : Rho} {fr : Fr} {σ : Mem} {a : Act} {w : World}
structure Takes (ρ : Rho) (σ : Mem) (w : World) (v : Value) (cs : List Col) (L : Loc) (σ1 : Mem) : Prop where
 reads : Reads ρ σ w v cs L
 write : Writable w L (cwidth cs)
 less : ∀ m b, Mem.find σ1 m = some b → Mem.find σ m = some b
 gone : L.cap ≠ 0 → ∃ n b, Mem.find σ n = some b ∧ Out ρ n b L.1 ∧ Mem.find σ1 n = none
theorem erase_less (n : Nat) : ∀ m b, Mem.find (σ.erase n) m = some b → Mem.find σ m = some b := fun m b h => by
 rw [find_erase] at h; split at h <;> first | exact h | cases h
theorem erase_gone (n : Nat) : Mem.find (σ.erase n) n = none := by rw [find_erase, if_pos rfl]
theorem takex_sound {ks : List Kd} {x : AV} {v : Value} {K : List Col → Mem → Prop} (h : takex σ ks x K) (hks : 0 < width ks) (hm : MemRep ρ σ w) (hs : Sep ρ σ) (hx : SRep ρ x v) : ∃ cs L σ1, Takes ρ σ w v cs L σ1 ∧ K cs σ1 := by
 unfold takex at h
 split at h
 ·rename_i n
  split at h <;> try exact h.elim
  rename_i cs hn
  have hcs : Mem.cols σ n = some cs := by simp [Mem.cols, hn]
  exact ⟨cs, ρ n, _, ⟨reads_vec hm hs hcs hx, (hm n _ hn).2.1, erase_less n, fun q => ⟨n, _, hn, ⟨q, rfl⟩, erase_gone n⟩⟩, h⟩
 ·rename_i n z i len
  split at h <;> try exact h.elim
  rename_i cs hn
  split at h <;> try exact h.elim
  rename_i hz
  have hcs : Mem.cols σ n = some cs := by simp [Mem.cols, hn]
  obtain ⟨A, cap, h1, h2⟩ := reads_vsl hm hs hcs (beq_nat hz) (vsl_vcl hx)
  have hw : cwidth (cs.map (Col.sub i len)) = cwidth cs := by simp [cwidth, sub_kds]
  refine ⟨_, _, _, ⟨h1, by rw [hw]; exact writable_sub (hm n _ hn).2.1 h2, erase_less n, fun q => ⟨n, _, hn, ⟨?_, rfl⟩, erase_gone n⟩⟩, h⟩
  have q' : cap ≠ 0 := q
  rcases h2 with h2 | ⟨h2, _⟩
  ·exact absurd h2 q'
  ·omega
 ·rename_i n z i len
  split at h <;> try exact h.elim
  rename_i cs hn
  split at h <;> try exact h.elim
  rename_i hz
  have hcs : Mem.cols σ n = some cs := by simp [Mem.cols, hn]
  obtain ⟨A, cap, h1, h2⟩ := reads_vsl hm hs hcs (beq_nat hz) hx
  have hw : cwidth (cs.map (Col.sub i len)) = cwidth cs := by simp [cwidth, sub_kds]
  refine ⟨_, _, _, ⟨h1, by rw [hw]; exact writable_sub (hm n _ hn).2.1 h2, erase_less n, fun q => ⟨n, _, hn, ⟨?_, rfl⟩, erase_gone n⟩⟩, h⟩
  have q' : cap ≠ 0 := q
  rcases h2 with h2 | ⟨h2, _⟩
  ·exact absurd h2 q'
  ·omega
 ·rename_i n base idx len cap
  split at h <;> try exact h.elim
  rename_i T s hn
  split at h <;> try exact h.elim
  rename_i k N l hf
  have hle : idx + cap ≤ N := h.1.le
  have hlc : len ≤ cap := hx.1
  obtain ⟨L, h1, h2⟩ := reads_sl hm hs hn (b := .own T s) hf (by omega) hx
  refine ⟨_, L, _, ⟨h1, fun q => ?_, erase_less n, fun q => ⟨n, _, hn, (h2 q).2.1, erase_gone n⟩⟩, h.2⟩
  obtain ⟨q1, q2, q3, q4⟩ := h2 q
  obtain ⟨ho, hz, c, fz, hh, hfr, hfz⟩ := hm n _ hn
  refine ⟨q4, c.toArray, T, fz, by rw [q2]; exact hh, ?_, by simpa using hfz⟩
  have e : cwidth [Col.ints k (lsub l idx len)] = 1 := rfl
  have hl := findSeg_len hf
  have hcl : c.length = slen s := by rw [← hfr.1, flat_length ho]
  simp only [Seg.len] at hl
  rw [e, q1, q3, hz]
  simp
  omega
 ·obtain ⟨rfl, _⟩ := hx
  obtain ⟨g1, g2⟩ := nil_rep (w := w) hks
  exact ⟨_, loc0, σ, ⟨⟨rfl, g1, fun k hk => absurd (Or.inr hk) (g2 k), nil_lnk, fun q => absurd rfl q⟩, fun q => absurd rfl q, fun _ _ q => q, fun q => absurd rfl q⟩, h⟩
 ·exact h.elim
theorem room_fits {need old bytes : Nat} (h : Room need bytes) (hlt : old < need) : Builtin.nextslicecap need old * bytes ≤ 281474976710656 := by
 have key : 4 * Builtin.nextslicecap need old ≤ 5 * need + 4096 := by
  unfold Builtin.nextslicecap
  split
  ·omega
  ·split
   ·omega
   ·rw [growBy_four]
    repeat' split
    all_goals omega
 have h1 : 4 * (Builtin.nextslicecap need old * bytes) ≤ (5 * need + 4096) * bytes := by
  rw [← Nat.mul_assoc]; exact Nat.mul_le_mul_right _ key
 have := h.le
 omega
theorem byteCells_rows (s : ByteArray) (L : Loc) (hL : L.len = (bytesIn s).length) : byteCells s = rowCells L [.ints .u8 (bytesIn s)] := by
 have e : cwidth [Col.ints .u8 (bytesIn s)] = 1 := rfl
 apply List.ext_getElem?
 intro j
 simp only [rowCells, e, Nat.mul_one, hL, byteCells, List.getElem?_map]
 by_cases hj : j < (bytesIn s).length
 ·have hj' : j < s.data.toList.length := by simpa [bytesIn] using hj
  have ed : j / 1 = j := Nat.div_one j
  have em : j % 1 = 0 := Nat.mod_one j
  simp only [List.getElem?_range hj, Option.map_some, List.getElem?_eq_getElem hj', ed, em, rowVal, Col.kd, Kd.width, colVal, Nat.lt_one_iff, if_true]
  simp only [lget, List.getD, bytesIn, List.getElem?_map, List.getElem?_eq_getElem hj', Option.map_some, Option.getD_some]
 ·have hj' : ¬ j < s.data.toList.length := by simpa [bytesIn] using hj
  rw [List.getElem?_eq_none (by simpa using hj'), List.getElem?_eq_none (by simpa using hj)]; rfl
structure Gives (P : Program) (ρ : Rho) (σ : Mem) (w : World) (ty : TypeId) (v : Value) (cs : List Col) (L : Loc) : Prop where
 src : Src P (cwidth cs) ty v L.len (rowCells L cs) w
 ok : ∀ x ∈ cs, x.ok L.len
 inner : ∀ c k ll, cs[c]? = some (Col.rows k ll) → ∀ i l, ll[i]? = some l → EltRep w (L.el c i) k l
 clean : ∀ k, Inner L cs k → Clean ρ σ k ∧ k < w.heap.size
 lnk : Lnk ρ L cs
 firstN : ∀ n, n ≤ L.len → (Builtin.firstCells (cwidth cs) n v).run P w = .ok ((rowCells L cs).take (n * cwidth cs)).toArray w
theorem seq_kind {ty : TypeId} (h : appendx.isSeq P ty = true) : (∃ e', P.underlying ty = some (.slice e')) ∨ P.underlying ty = some .string := by
 unfold appendx.isSeq at h
 split at h
 ·rename_i e he; exact Or.inl ⟨e, he⟩
 ·rename_i he; exact Or.inr he
 ·cases h
theorem rdy_sound {ks : List Kd} {y : AV} {v : Value} {K : List Col → Prop} {ty : TypeId} (h : rdy σ ks y K) (hks : 0 < width ks) (hm : MemRep ρ σ w) (hs : Sep ρ σ) (hx : SRep ρ y v) (hty : (∃ e', P.underlying ty = some (.slice e')) ∨ P.underlying ty = some .string) :
  ∃ cs L, Gives P ρ σ w ty v cs L ∧ K cs := by
 unfold rdy at h
 split at h
 ·rename_i s
  split at h <;> try exact h.elim
  cases (show v = _ from hx)
  have hl : (bytesIn s).length = s.size := by show _ = s.data.size; simp [bytesIn]
  have hr := byteCells_rows s ⟨0, 0, none, s.size, s.size, fun _ _ => ⟨none, 0, 0⟩⟩ hl.symm
  refine ⟨[.ints .u8 (bytesIn s)], ⟨0, 0, none, s.size, s.size, fun _ _ => ⟨none, 0, 0⟩⟩, ⟨?_, fun x hx => by simp at hx; subst hx; exact hl, fun c k ll hc => by cases c <;> simp at hc, fun k hk => absurd hk not_inner_ints, lnk_ints, fun n hn => ?_⟩, h⟩
  rotate_left
  ·have e : cwidth [Col.ints .u8 (bytesIn s)] = 1 := rfl
   rw [← hr, e, Nat.mul_one]
   simp [Builtin.firstCells, byteCells]
   apply Array.ext'
   simp
  rw [← hr]
  have e : cwidth [Col.ints .u8 (bytesIn s)] = 1 := rfl
  rw [e]
  exact ⟨hty, fun _ => rfl, firstCells_string s w, firstCells_string s w.drew, by rw [byteCells_length, Nat.mul_one], fun u hu => by
   obtain ⟨_, _, rfl⟩ := List.mem_map.1 hu
   rfl⟩
 ·obtain ⟨cs, L, hr, hK⟩ := rdx_sound h hks hm hs hx
  refine ⟨cs, L, ⟨?_, hr.rep.ok, hr.rep.inner, fun k hk => ⟨hr.clean k hk, inner_lt hr.rep hk⟩, hr.lnk, fun n hn => ?_⟩, hK⟩
  ·rw [hr.val]
   exact hr.rep.src hty
  ·rw [hr.val]
   exact hr.rep.firstN hn
theorem Takes.asH {σ' σ1 : Mem} {v : Value} {cs : List Col} {L : Loc} (h : Takes ρ σ w v cs L σ1) : Takes ρ σ w v (cs.map (Col.asH σ')) L σ1 :=
 ⟨⟨h.reads.val, h.reads.rep.asH, fun k hk => h.reads.clean k hk.ofAsH, h.reads.lnk.asH, h.reads.root⟩, by rw [asH_cwidth]; exact h.write, h.less, h.gone⟩
theorem asH_cells (σ' : Mem) (L : Loc) (cs : List Col) : rowCells L (cs.map (Col.asH σ')) = rowCells L cs := by simp only [rowCells, asH_cwidth, asH_row]
theorem Gives.asH {σ' : Mem} {ty : TypeId} {v : Value} {cs : List Col} {L : Loc} (h : Gives P ρ σ w ty v cs L) : Gives P ρ σ w ty v (cs.map (Col.asH σ')) L :=
 ⟨by rw [asH_cwidth, asH_cells]; exact h.src, fun x hx => by obtain ⟨y, hy, rfl⟩ := List.mem_map.1 hx; exact asH_ok (h.ok y hy), fun c k ll hc => h.inner c k ll (asH_rows hc), fun k hk => h.clean k hk.ofAsH, h.lnk.asH, by rw [asH_cwidth, asH_cells]; exact h.firstN⟩
theorem append_sound {tx ty ot e : TypeId} {ks : List Kd} {bytes d : Nat} {cx cy : List Col} {Lx Ly : Loc} {σ1 : Mem} {vx vy : Value} (hR : Rep E ρ fr σ a w) (hu : P.underlying tx = some (.slice e)) (hk : elemKinds P e = some (ks, bytes)) (hx : Takes ρ σ w vx cx Lx σ1) (hy : Gives P ρ σ w ty vy cy Ly)
  (h1 : kdsOf cx = ks) (h2 : kdsOf cy = ks) (hlk : likeCols cx cy = true) (hroom : Room (clen cx + clen cy) bytes) (hd : freshB d fr σ1 = true) :
  ∃ v w' L, (Builtin.append_ #[tx, ty] ot #[vx, vy]).run P w = .ok v w' ∧ v = .slice L.a L.len L.cap ∧ w.heap.size ≤ w'.heap.size ∧ Rep E (upd ρ d L) fr (Mem.ins d (.vec (catCols cx cy)) σ1) a w' := by
 obtain ⟨i, z, hi, hz, hzero, hsize, hwid, hbytes, _⟩ := elemKinds_sound hk
 have hkk : kdsOf cx = kdsOf cy := h1.trans h2.symm
 have wx : cwidth cx = width ks := by rw [cwidth, h1]
 have wy : cwidth cy = width ks := by rw [cwidth, h2]
 have wc : cwidth (catCols cx cy) = width ks := by rw [cwidth, catCols_kds hkk, h1]
 have hRx := hx.reads.rep
 have hLn : ∀ {L : Loc}, L.el = catEl Lx Ly → Lnk ρ L (catCols cx cy) := fun e => Lnk.cat e hkk hlk hRx.ok hx.reads.lnk hy.lnk
 have hLu : ∀ {L p : Loc}, L.el = catEl Lx Ly → Lnk (upd ρ d p) L (catCols cx cy) := fun e => (hLn e).agree (ne_of_refs (f := fun m => (catCols cx cy).any (Col.refs m)) (refs_no (freshB_parts hd).1))
 have lx : clen cx = Lx.len := hRx.len
 have ly : clen cy = Ly.len := clen_ok (fun q => by rw [q] at wy; rw [← wy] at hwid; exact absurd hwid (by decide)) hy.ok
 rw [lx, ly] at hroom
 have hsrc := hy.src
 rw [wy, ← hsize] at hsrc
 have hR1 : Rep E ρ fr σ1 a w := hR.less hR.fr hx.less
 have cl1 : ∀ k, Clean ρ σ k → Clean ρ σ1 k := fun k hc m b hb => hc m b (hx.less m b hb)
 have hval := hx.reads.val
 by_cases hfit : Lx.len + Ly.len ≤ Lx.cap
 ·
  let L : Loc := ⟨Lx.1, Lx.2, Lx.a, Lx.len + Ly.len, Lx.cap, catEl Lx Ly⟩
  by_cases hcap : Lx.cap = 0
  ·
   have l0 : Lx.len = 0 := by omega
   have m0 : Ly.len = 0 := by omega
   have hnil : rowCells Ly cy = [] := by simp [rowCells, m0]
   have hcells := hsrc.cells
   rw [hnil, m0] at hcells
   have hrun : (Builtin.append_ #[tx, ty] ot #[vx, vy]).run P w = .ok (.slice Lx.a 0 0) w := by
    have hlen := hsrc.len
    rw [m0] at hlen
    rw [hval, l0, hcap]
    rcases hsrc.kind with ⟨e', hkd⟩ | hkd <;> cases Lx.a <;> simp [Builtin.append_, run_underlying hu, run_underlying hkd, sizeOf, typeInfo, hi, hlen, hcells, storeCells]
   have hV : VRep w L (catCols cx cy) := cat_rep (N := L) hRx hy.ok hy.inner hkk hlk rfl rfl hfit (fun q => by have : Lx.len + Ly.len ≠ 0 := q; omega) (fun j v hj => by
    have hxn : rowCells Lx cx = [] := by simp [rowCells, l0]
    rw [hxn, hnil] at hj; simp at hj) (fun _ _ => rfl) (fun _ _ => rfl)
   refine ⟨_, w, L, hrun, by show _ = Value.slice Lx.a (Lx.len + Ly.len) Lx.cap; rw [l0, m0, hcap], Nat.le_refl _, ?_⟩
   refine (add_sound (b := .vec (catCols cx cy)) hR1 hd hR.keep (fun _ _ _ _ _ => rfl) ⟨by rw [upd_eq]; exact hV, by rw [upd_eq]; exact fun q => absurd hcap q, by rw [upd_eq]; exact hLu rfl⟩ (fun k hk => ?_) (fun k hk => ?_)).find_eq (find_ins (freshB_parts hd).2.2)
   ·simp only [Out, upd_eq] at hk; exact absurd hcap hk.1
   ·simp only [Foot, upd_eq] at hk
    rcases hk with ⟨q, _⟩ | hk
    ·exact absurd hcap q
    ·rcases inner_cat rfl hkk hlk hRx.ok hk with q | q
     ·exact cl1 k (hx.reads.clean k q)
     ·exact cl1 k (hy.clean k q).1
  ·obtain ⟨ha, c, T, fz, hh, hcz, hfz⟩ := hx.write hcap
   obtain ⟨n, b, hn, hO, hgone⟩ := hx.gone hcap
   rw [wx] at hcz
   have hnl := hsrc.newsLen
   have hlen2 : (Lx.len + Ly.len) * width ks ≤ Lx.cap * width ks := Nat.mul_le_mul_right _ hfit
   rw [Nat.add_mul] at hlen2
   rw [hsize] at hnl
   obtain ⟨w', cur', e1, e2, e3, e4, e5, e6, e7, e8, e9⟩ := store_cells P (g := Lx.1) (o := Lx.2 + Lx.len * width ks) (rowCells Ly cy) 0 c.toList w hh (by simpa using hfz) (by simp; omega) hsrc.one
   have hrun : (Builtin.append_ #[tx, ty] ot #[vx, vy]).run P w = .ok (.slice Lx.a (Lx.len + Ly.len) Lx.cap) w' := by
    have hcells := hsrc.cells
    have hlen := hsrc.len
    rw [hval, ha]
    have hadd : (Lx.at 0).add (Lx.len * width ks) = ⟨Lx.1, Lx.2 + Lx.len * width ks, none⟩ := by rw [Loc.at_add, Nat.zero_add]; rfl
    rw [hsize] at hcells
    rcases hsrc.kind with ⟨e', hkd⟩ | hkd <;> simp [Builtin.append_, run_underlying hu, run_underlying hkd, sizeOf, typeInfo, hi, hlen, hfit, hsize, hcells, hadd, e1]
   have hinn : ∀ k, Clean ρ σ k → w'.heap[k]? = w.heap[k]? := fun k hc => e3 k fun q => by subst q; exact hc n b hn hO
   have hV : VRep w' L (catCols cx cy) := cat_rep (N := L) hRx hy.ok hy.inner hkk hlk rfl rfl hfit (fun _ => ha) (fun j v hj => by
    have hlt : j < Lx.len * width ks + Ly.len * width ks := by
     have := (List.getElem?_eq_some_iff.1 hj).1
     rw [List.length_append, rowCells_len, rowCells_len, wx, wy] at this; exact this
    have h9 := e9 (Lx.2 + j)
    simp only [World.cell?, Loc.at, L, e2, Option.isSome_none, Bool.false_eq_true, if_false]
    rw [List.getElem?_toArray, h9]
    rw [List.getElem?_append, rowCells_len, wx] at hj
    by_cases hjx : j < Lx.len * width ks
    ·rw [if_pos hjx] at hj
     rw [if_neg (by omega)]
     have := hRx.cell hj
     simp only [World.cell?, Loc.at, hh, Option.isSome_none, Bool.false_eq_true, if_false] at this
     simpa using this
    ·rw [if_neg hjx] at hj
     rw [if_pos (by omega), ← hj]
     congr 1; omega) (fun k hk => hinn k (hx.reads.clean k hk)) (fun k hk => hinn k (hy.clean k hk).1)
   have hother : ∀ m c', Mem.find σ1 m = some c' → m ≠ n := fun m c' hm q => by subst q; rw [hgone] at hm; cases hm
   refine ⟨_, w', L, hrun, rfl, by rw [e4]; exact Nat.le_refl _, ?_⟩
   refine (add_sound (b := .vec (catCols cx cy)) hR1 hd ⟨e5.trans hR.keep.os, e6.trans hR.keep.tape, e7.trans hR.keep.output, by rw [e4]; exact hR.keep.size, fun k hk hx' => ?_⟩ (fun m c' k hm hk => e3 k fun q => ?_) ⟨by rw [upd_eq]; exact hV, by rw [upd_eq]; exact fun _ => ⟨ha, cur'.toArray, T, fz, e2, by rw [wc]; show Lx.2 + Lx.cap * width ks ≤ _; simp [e8]; omega, by simpa [e8] using hfz⟩, by rw [upd_eq]; exact hLu rfl⟩ (fun k hk => ?_) (fun k hk => ?_)).find_eq (find_ins (freshB_parts hd).2.2)
   ·rw [← hR.keep.block k hk hx']
    refine e3 k fun q => ?_
    subst q
    rcases hR.own n b _ hn hO with q | q
    ·omega
    ·exact hx' q
   ·subst q
    exact hR.sep.1 n m b c' _ hn (hx.less m c' hm) (Ne.symm (hother m c' hm)) hO hk
   ·simp only [Out, upd_eq] at hk
    obtain ⟨_, hk⟩ := hk
    have hk' : k = Lx.1 := hk
    subst hk'
    refine ⟨hR.own n b _ hn hO, fun m c' hm hF => hR.sep.1 n m b c' _ hn (hx.less m c' hm) (Ne.symm (hother m c' hm)) hO hF, fun hI => ?_⟩
    simp only [Inn, upd_eq] at hI
    rcases inner_cat rfl hkk hlk hRx.ok hI with q | q
    ·exact hx.reads.clean _ q n b hn hO
    ·exact (hy.clean _ q).1 n b hn hO
   ·simp only [Foot, upd_eq] at hk
    rcases hk with ⟨_, hk⟩ | hk
    ·have hk' : k = Lx.1 := hk
     subst hk'
     exact fun m c' hm hO' => hR.sep.1 n m b c' _ hn (hx.less m c' hm) (Ne.symm (hother m c' hm)) hO hO'.foot
    ·rcases inner_cat rfl hkk hlk hRx.ok hk with q | q
     ·exact cl1 k (hx.reads.clean k q)
     ·exact cl1 k (hy.clean k q).1
 ·
  have hg : Lx.cap < Lx.len + Ly.len := by omega
  have hfirst := hRx.drew.first (P := P)
  rw [wx, ← hsize] at hfirst
  have hb := hroom.le
  have h63 : ((Lx.len + Ly.len : Nat) : Int) ≤ 9223372036854775807 := by
   have : (5 * (Lx.len + Ly.len) + 4096) * 1 ≤ (5 * (Lx.len + Ly.len) + 4096) * bytes := Nat.mul_le_mul_left _ (by omega)
   omega
  have hrun := run_append_grow_src (P := P) w tx ty ot e i z hu hi hz Lx.a Lx.len Lx.cap (rowCells Lx cx) hfirst vy Ly.len (rowCells Ly cy) hsrc hg h63 (by rw [hbytes]; exact room_fits hroom hg)
  rw [← hval] at hrun
  generalize hG : grownCap w (Lx.len + Ly.len) Lx.cap e = G at hrun
  have hGle : Lx.len + Ly.len ≤ G := by
   rw [← hG]; unfold grownCap Question.cut; simp
  generalize hC : (rowCells Lx cx ++ rowCells Ly cy).toArray ++ Builtin.zeroCells z.cells (G - (Lx.len + Ly.len)) = C at hrun
  have zsz : z.cells.size = width ks := by
   have := zero_len hzero
   simpa using this
  have hCs : C.size = G * width ks := by
   rw [← hC, Array.size_append, List.size_toArray, List.length_append, rowCells_len, rowCells_len, wx, wy, size_zeroCells, zsz, ← Nat.add_mul, ← Nat.add_mul]
   congr 1; omega
  let L : Loc := ⟨w.heap.size, 0, some ⟨w.heap.size, 0, none⟩, Lx.len + Ly.len, G, catEl Lx Ly⟩
  have new : (w.drew.alloc (.cells C e)).heap[w.heap.size]? = some (.cells C e) := by
   show (w.heap.push _)[w.heap.size]? = _
   simp
  have old : ∀ k, k < w.heap.size → (w.drew.alloc (.cells C e)).heap[k]? = w.heap[k]? := fun k hk => with_old (o := .cells C e) hk
  have hV : VRep (w.drew.alloc (.cells C e)) L (catCols cx cy) := cat_rep (N := L) hRx hy.ok hy.inner hkk hlk rfl rfl hGle (fun _ => rfl) (fun j v hj => by
   simp only [World.cell?, Loc.at, L, new, Option.isSome_none, Bool.false_eq_true, if_false, Nat.zero_add]
   have hlt := (List.getElem?_eq_some_iff.1 hj).1
   rw [← hC, Array.getElem?_append, if_pos (by simpa using hlt), List.getElem?_toArray]
   exact hj) (fun k hk => old k (inner_lt hRx hk)) (fun k hk => old k (hy.clean k hk).2)
  refine ⟨_, _, L, hrun, rfl, by show _ ≤ (w.heap.push _).size; simp, newvec (L := L) hR1 hd (C := C) (T := e) (fz := (0, 0)) rfl rfl rfl rfl hV (hLn rfl) (refs_no (freshB_parts hd).1) rfl rfl rfl (by rw [wc, hCs]; exact Nat.le_refl _) (fun j _ => by simp) (fun k hk => ?_)⟩
  rcases inner_cat rfl hkk hlk hRx.ok hk with q | q
  ·exact ⟨cl1 k (hx.reads.clean k q), inner_lt hRx q⟩
  ·exact ⟨cl1 k (hy.clean k q).1, (hy.clean k q).2⟩
end
section
variable {P : Program} {E : Env} {ρ : Rho} {fr : Fr} {σ : Mem} {a : Act} {w : World}
theorem bytesT_sound {t : TypeId} (h : bytesT P t = true) : ∃ e, P.underlying t = some (.slice e) ∧ P.underlying e = some (.int .u8) ∧ sizeB P e = some 1 := by
 unfold bytesT at h
 split at h <;> try (cases h; done)
 rename_i e hu
 split at h <;> try (cases h; done)
 rename_i he
 split at h <;> try (cases h; done)
 rename_i hs
 exact ⟨e, hu, he, hs⟩
theorem strT_sound {t : TypeId} (h : strT P t = true) : P.underlying t = some .string := by
 unfold strT at h
 split at h
 ·rename_i hu; exact hu
 ·cases h
theorem bytesRow_size (s : ByteArray) (cap : Nat) (h : s.size ≤ cap) : (bytesRow s cap).size = cap := by
 have : (s.data.map fun b => Value.int .u8 (b.toNat : Int)).size = s.size := by rw [Array.size_map]; rfl
 simp only [bytesRow, Array.size_append, this, Array.size_replicate]; omega
theorem text_bytes {s d e : TypeId} {b : ByteArray} {dn : Nat} (h : Rep E ρ fr σ a w) (hs : P.underlying s = some .string) (hd : P.underlying d = some (.slice e)) (he : P.underlying e = some (.int .u8)) (hfr : freshB dn fr σ = true) :
    ∃ v w' L, (convert s d (.string b)).run P w = .ok v w' ∧ v = .slice L.a L.len L.cap ∧ w.heap.size ≤ w'.heap.size ∧ Keeps (fun _ => False) w w' ∧ Rep E (upd ρ dn L) fr (Mem.ins dn (.vec [.ints .u8 (bytesIn b)]) σ) a w' := by
  have hrun := run_bytes_of_string (P := P) w s d e b hs hd he
  generalize hG : grownCap w b.size 0 e = G at hrun
  have hGle : b.size ≤ G := by
    rw [← hG]; unfold grownCap Question.cut; simp
  have hC := bytesRow_size b G hGle
  let L : Loc := ⟨w.heap.size, 0, some ⟨w.heap.size, 0, none⟩, b.size, G, fun _ _ => ⟨none, 0, 0⟩⟩
  have new : (w.drew.alloc (.cells (bytesRow b G) e ((bytesRow b G).size, (bytesRow b G).size + 1))).heap[w.heap.size]? = some (.cells (bytesRow b G) e ((bytesRow b G).size, (bytesRow b G).size + 1)) := by
    show (w.heap.push _)[w.heap.size]? = _
    simp
  have hl : (bytesIn b).length = b.size := by show _ = b.data.size; simp [bytesIn]
  refine ⟨_, _, L, hrun, rfl, by show _ ≤ (w.heap.push _).size; simp, ⟨rfl, rfl, rfl, by show _ ≤ (w.heap.push _).size; simp, fun k hk _ => with_old (o := .cells _ e _) hk⟩, newvec (L := L) h hfr (C := bytesRow b G) (T := e) (fz := ((bytesRow b G).size, (bytesRow b G).size + 1)) rfl rfl rfl rfl (.ofInts hl hGle (fun _ => rfl) (fun j x hx => ?_)) lnk_ints (refs_no (freshB_parts hfr).1) rfl rfl rfl (by show G * 1 ≤ _; omega) (fun j hj => by simp; omega) (fun k hk => absurd hk not_inner_ints)⟩
  simp only [World.cell?, Loc.at, L, new, Option.isSome_none, Bool.false_eq_true, if_false, Nat.zero_add]
  have hj := (List.getElem?_eq_some_iff.1 hx).1
  have hj' : j < b.data.size := by have : b.size = b.data.size := rfl
                                   omega
  simp only [bytesIn, List.getElem?_map, Array.getElem?_toList, Array.getElem?_eq_getElem hj', Option.map_some, Option.some.injEq] at hx
  subst hx
  have hjs : j < b.size := by have : b.size = b.data.size := rfl
                              omega
  simp [bytesRow, Array.getElem?_append, hjs, hj']
theorem bytes_text {s d e : TypeId} {l : List Int} {v : Value} {L : Loc} (hr : Reads ρ σ w v [.ints .u8 l] L) (hs : P.underlying s = some (.slice e)) (he : P.underlying e = some (.int .u8)) (hd : P.underlying d = some .string) :
  (convert s d v).run P w = .ok (.string (bytesOf l)) w := by
 have hl : l.length = L.len := hr.rep.ok (.ints .u8 l) (by simp)
 rw [hr.val, run_convert_bytes_string w s d e _ _ _ hs he hd]
 cases ha : L.a with
 | none =>
  have hl0 : L.len = 0 := by
   by_cases q : L.len = 0
   ·exact q
   ·have := hr.rep.adr q; rw [ha] at this; cases this
  have : l = [] := by cases l <;> simp_all
  subst this
  simp [Conv.bytesToString, bytesOf, ByteArray.empty, ByteArray.emptyWithCapacity]
  rfl
 | some x =>
  have hload : (loadCells x L.len).run P w = .ok (l.map (Value.int .u8)).toArray w := by
   have := run_loadCells_list (P := P) w x (l.map (Value.int .u8)) (fun j u hj => by
    simp only [List.getElem?_map, Option.map_eq_some_iff] at hj
    obtain ⟨y, hy, rfl⟩ := hj
    have hlt := (List.getElem?_eq_some_iff.1 hy).1
    have had := hr.rep.adr (by omega)
    rw [ha] at had
    cases had
    rw [Loc.at_add, Nat.zero_add]
    have := hr.rep.cells j (by omega) 0 (by show 0 < 1; omega)
    have e1 : cwidth [Col.ints .u8 l] = 1 := rfl
    rw [e1, Nat.mul_one, Nat.add_zero] at this
    rw [this]
    simp [rowVal, Col.kd, Kd.width, colVal, lget, List.getD, hy])
   rw [List.length_map, hl] at this
   exact this
  rw [run_bytesToString w x L.len L.cap l hload, foldl_push_bytes]
  simp [bytesOf, ByteArray.empty, ByteArray.emptyWithCapacity]
  rfl
theorem mark_sound {s e : TypeId} {n : Nat} {l : List Int} (hR : Rep E ρ fr σ a w) (hn : Mem.find σ n = some (.vec [.ints .u8 l])) (hl : 0 < l.length) (hs : P.underlying s = some (.slice e)) (he : P.underlying e = some (.int .u8)) :
  ∃ w', (convert s s (.slice (ρ n).a (ρ n).len (ρ n).cap)).run P w = .ok (.slice (ρ n).a (ρ n).len (ρ n).cap) w' ∧ w'.heap.size = w.heap.size ∧ Rep E ρ fr (σ.put n (.rview [.ints .u8 l])) a w' := by
 obtain ⟨hV, hW, hLn⟩ := hR.mem n _ hn
 have hlen : l.length = (ρ n).len := hV.ok (.ints .u8 l) (by simp)
 have hcap := hV.cap
 have hc0 : (ρ n).cap ≠ 0 := by omega
 obtain ⟨ha, c, T, fz, hh, hfit, hfz⟩ := hW hc0
 have hsh : w.shape? (ρ n).1 = some (T, c.size) := by simp [World.shape?, hh]
 refine ⟨w.freeze ⟨(ρ n).1, c.size, none⟩ 1, ?_, ?_, ?_⟩
 ·rw [ha]
  simp [convert, run_underlying hs, run_underlying he, markStringish, Loc.at, hsh]
 ·simp [World.freeze]
 have hother : ∀ k, k ≠ (ρ n).1 → (w.freeze ⟨(ρ n).1, c.size, none⟩ 1).heap[k]? = w.heap[k]? := fun k hk => by
  simp only [World.freeze, if_neg (show ¬ (1 : Nat) = 0 by decide), Array.getElem?_modify, if_neg (Ne.symm hk)]
 have hcell : ∀ A : Addr, (w.freeze ⟨(ρ n).1, c.size, none⟩ 1).cell? A = w.cell? A := fun A => by
  by_cases hA : A.block = (ρ n).1
  ·simp only [World.cell?, World.freeze, if_neg (show ¬ (1 : Nat) = 0 by decide), Array.getElem?_modify, hA, if_pos, hh, Option.map_some]
  ·simp only [World.cell?, hother _ hA]
 refine change_sound hR hn (g := (ρ n).1) ⟨hc0, rfl⟩ hother (by simp [World.freeze]) (by simp [World.freeze]) (by simp [World.freeze]) (by simp [World.freeze]) ?_ (fun k hk => hk.elim) (fun k hk => ?_) (fun k hk => hk)
 ·exact ⟨⟨hV.ne, hV.wid, hV.ok, hV.cap, hV.adr, fun i hi t ht => by rw [hcell]; exact hV.cells i hi t ht, fun c' k ll hcc => by cases c' <;> simp at hcc⟩, hLn⟩
 ·rcases hk with ⟨_, rfl⟩ | hk
  ·exact Or.inl ⟨hc0, rfl⟩
  ·exact Or.inr hk
theorem lput_get (l v : List Int) (i j : Nat) (hi : i + v.length ≤ l.length) : (lput l i v)[j]? = if i ≤ j ∧ j < i + v.length then v[j - i]? else l[j]? := by
 simp only [lput]
 by_cases h1 : j < i
 ·rw [if_neg (by omega), List.append_assoc, List.getElem?_append_left (by simp; omega), List.getElem?_take, if_pos h1]
 ·by_cases h2 : j < i + v.length
  ·rw [if_pos (by omega), List.append_assoc, List.getElem?_append_right (by simp; omega), List.getElem?_append_left (by simp; omega)]
   congr 1; simp; omega
  ·rw [if_neg (by omega), List.getElem?_append_right (by simp; omega), List.getElem?_drop]
   congr 1; simp; omega
theorem lput_len (l v : List Int) (i : Nat) (hi : i + v.length ≤ l.length) : (lput l i v).length = l.length := by simp [lput]; omega
theorem ints_cells {L : Loc} {k : IntKind} {l : List Int} (hl : l.length = L.len) : rowCells L [.ints k l] = l.map (Value.int k) := by
 have e : cwidth [Col.ints k l] = 1 := rfl
 apply List.ext_getElem?
 intro j
 simp only [rowCells, e, Nat.mul_one, List.getElem?_map]
 by_cases hj : j < L.len
 ·simp [hj, show j < l.length by omega, rowVal, Col.kd, Kd.width, colVal, lget, List.getD, Nat.mod_one]
 ·rw [List.getElem?_eq_none (by simpa using hj), List.getElem?_eq_none (by omega)]; rfl
theorem run_copy {tx ty ot e : TypeId} {k : IntKind} {src : List Int} {Ly : Loc} {vy : Value} {A : Option Addr} {dlen dcap : Nat} {w' : World} (hu : P.underlying tx = some (.slice e)) (hs : sizeB P e = some 1) (hy : Gives P ρ σ w ty vy [.ints k src] Ly)
  (hst : ∀ x, A = some x → (storeCells x ((lsub src 0 (nmin (llen src) dlen)).map (Value.int k))).run P w = .ok () w') (hn : A = none → w' = w) :
  (Builtin.copy_ #[tx, ty] ot #[.slice A dlen dcap, vy]).run P w = .ok (.int .i64 (ofNat (nmin (llen src) dlen))) w' := by
 have hl : src.length = Ly.len := hy.ok (.ints k src) (by simp)
 have hsi : ∃ i, P.info? e = some i ∧ i.size = 1 := by
  unfold sizeB at hs
  cases hi : P.info? e with
  | none => rw [hi] at hs; cases hs
  | some i => rw [hi] at hs; exact ⟨i, rfl, by simpa using hs⟩
 obtain ⟨i, hi, hi1⟩ := hsi
 have hlen := hy.src.len
 have hmin : Nat.min Ly.len dlen = nmin (llen src) dlen := by simp only [nmin, llen, hl]
 have hfirst := hy.firstN (nmin (llen src) dlen) (by rw [← hmin]; exact Nat.min_le_left _ _)
 have e1 : cwidth [Col.ints k src] = 1 := rfl
 rw [e1, Nat.mul_one, ints_cells hl] at hfirst
 have htake : (src.map (Value.int k)).take (nmin (llen src) dlen) = (lsub src 0 (nmin (llen src) dlen)).map (Value.int k) := by simp [lsub, List.map_take]
 rw [htake] at hfirst
 cases A with
 | none =>
  have := hn rfl
  subst this
  simp [Builtin.copy_, run_underlying hu, sizeOf, typeInfo, hi, hi1, hlen, hmin, hfirst, goInt, ofNat]
 | some x =>
  simp [Builtin.copy_, run_underlying hu, sizeOf, typeInfo, hi, hi1, hlen, hmin, hfirst, goInt, ofNat, hst x rfl]
theorem kinds_size {e : TypeId} {k : IntKind} {bytes : Nat} (h : elemKinds P e = some ([.ints k], bytes)) : sizeB P e = some 1 := by
 obtain ⟨i, z, hi, _, _, hsize, _⟩ := elemKinds_sound h
 simp [sizeB, hi, hsize, width, Kd.width]
theorem copy_vec {n i len : Nat} {k : IntKind} {l src : List Int} {A : Option Addr} (hR : Rep E ρ fr σ a w) (hn : Mem.find σ n = some (.vec [.ints k l])) (hi : i + len ≤ (ρ n).len) (hA : len ≠ 0 → A = some (at_ ρ n i)) :
  ∃ w', (∀ x, A = some x → (storeCells x ((lsub src 0 (nmin (llen src) len)).map (Value.int k))).run P w = .ok () w') ∧ w'.heap.size = w.heap.size ∧ (A = none → w' = w) ∧ Rep E ρ fr (σ.put n (.vec [.ints k (lput l i (lsub src 0 (nmin (llen src) len)))])) a w' := by
 have hV := (hR.mem n _ hn).1
 have hl : l.length = (ρ n).len := hV.ok (.ints k l) (by simp)
 have hm : nmin (llen src) len ≤ len := Nat.min_le_right _ _
 have hms : nmin (llen src) len ≤ src.length := Nat.min_le_left _ _
 have hvl : (lsub src 0 (nmin (llen src) len)).length = nmin (llen src) len := lsub_len _ _ _ (by omega)
 generalize hv : lsub src 0 (nmin (llen src) len) = v at hvl ⊢
 have e1 : ∀ l, cwidth [Col.ints k l] = 1 := fun _ => rfl
 obtain ⟨w', h1, h2, h3, _⟩ := vec_store (P := P) (q := i) (cs' := [.ints k (lput l i v)]) (vs := v.map (Value.int k)) hR hn rfl (fun col hcol => by simp at hcol; subst hcol; show _ = _; rw [lput_len _ _ _ (by omega), hl]) (fun c kk ll hc => by cases c <;> simp at hc) lnk_ints
  (by rw [e1]; simp; omega) (fun u hu => by obtain ⟨_, _, rfl⟩ := List.mem_map.1 hu; rfl) (fun r hr t ht => by
   rw [e1] at ht ⊢
   have ht0 : t = 0 := by omega
   subst ht0
   simp only [Nat.mul_one, Nat.add_zero, rowVal, Col.kd, Kd.width, Nat.lt_one_iff, if_true, colVal, List.length_map]
   have hg := lput_get l v i r (by omega)
   rw [lget_some (l := lput l i v) (i := r) (by rw [lput_len _ _ _ (by omega)]; omega)] at hg
   by_cases hin : i ≤ r ∧ r < i + v.length
   ·rw [if_pos hin] at hg ⊢
    rw [List.getElem?_map, ← hg]; rfl
   ·rw [if_neg hin] at hg ⊢
    rw [lget_some (l := l) (i := r) (by omega)] at hg
    simp only [Option.some.injEq] at hg
    rw [hg])
 by_cases h0 : len = 0
 ·have hv0 : v = [] := by cases v <;> simp_all
  rw [hv0] at h1 h3 ⊢
  have hw : w' = w := by simp [storeCells] at h1; exact h1.symm
  exact ⟨w', fun x _ => by rw [hw]; simp [storeCells], h2, fun _ => hw, h3⟩
 ·have := hA h0
  exact ⟨w', fun x hx => (by rw [this] at hx; cases hx; exact h1), h2, fun q => (by rw [this] at q; cases q), h3⟩
theorem copyx_sound {tx ty ot : TypeId} {x y : AV} {vx vy : Value} {K : AV → Mem → Prop} (h : copyx P tx x y σ K) (hR : Rep E ρ fr σ a w) (hx : SRep ρ x vx) (hy : SRep ρ y vy) (hty : (∃ e', P.underlying ty = some (.slice e')) ∨ P.underlying ty = some .string) :
  ∃ m w' σ', (Builtin.copy_ #[tx, ty] ot #[vx, vy]).run P w = .ok (.int .i64 m) w' ∧ w.heap.size ≤ w'.heap.size ∧ Rep E ρ fr σ' a w' ∧ K (.one (.int .i64 m)) σ' := by
 unfold copyx at h
 split at h <;> try exact h.elim
 rename_i e hu
 split at h <;> try exact h.elim
 rename_i k bytes hk
 have hs := kinds_size hk
 obtain ⟨cy, Ly, hG, h'⟩ := rdy_sound (P := P) (w := w) h Nat.one_pos hR.mem hR.sep hy hty
 clear h
 have h := h'
 clear h'
 split at h <;> try exact h.elim
 rename_i k1 src
 split at h <;> try exact h.elim
 rename_i hk1
 subst hk1
 split at h <;> try exact h.elim
 ·rename_i n
  split at h <;> try exact h.elim
  rename_i k2 l hn
  split at h <;> try exact h.elim
  rename_i hk2
  subst hk2
  have hV := (hR.mem n _ hn).1
  have hl : l.length = (ρ n).len := hV.ok (.ints k2 l) (by simp)
  obtain ⟨w', h1, h2, h3, h4⟩ := copy_vec (P := P) (src := src) (i := 0) (len := (ρ n).len) (A := (ρ n).a) hR hn (by omega) (fun q => hV.adr q)
  have e : llen l = (ρ n).len := hl
  rw [e] at h
  cases (show vx = _ from hx)
  exact ⟨_, w', _, run_copy hu hs hG h1 h3, by omega, h4, h⟩
 ·rename_i n i len
  split at h <;> try exact h.elim
  rename_i k2 l hn
  split at h <;> try exact h.elim
  rename_i hk2
  subst hk2
  have hV := (hR.mem n _ hn).1
  obtain ⟨A, cap, rfl, g1, g2, g3, g4, _⟩ := hx
  obtain ⟨w', h1, h2, h3, h4⟩ := copy_vec (P := P) (src := src) (i := i) (len := len) (A := A) hR hn g2 (fun q => by
   rcases g3 with g3 | ⟨_, rfl⟩
   ·omega
   ·rw [g4 (by omega), Option.map_some, Loc.at_add, Nat.zero_add, Nat.mul_one]; rfl)
  exact ⟨_, w', _, run_copy hu hs hG h1 h3, by omega, h4, h⟩
 ·rename_i n base idx len cap
  split at h <;> try exact h.elim
  rename_i T s hn
  split at h <;> try exact h.elim
  rename_i k2 N l hf
  split at h <;> try exact h.elim
  rename_i hk2
  subst hk2
  obtain ⟨hfit, h⟩ := h
  have hle : idx + len ≤ N := hfit.le
  split at h <;> try exact h.elim
  rename_i s' hset
  obtain ⟨hlc, hx⟩ := hx
  have hms : nmin (llen src) len ≤ src.length := Nat.min_le_left _ _
  have hml : nmin (llen src) len ≤ len := Nat.min_le_right _ _
  have hvl : (lsub src 0 (nmin (llen src) len)).length = nmin (llen src) len := lsub_len _ _ _ (by omega)
  have ho : segsOk s := (hR.mem n _ hn).1
  have hpart : storePart s (nmin (llen src) len) base idx [.ints k2 (nmin (llen src) len) (lsub src 0 (nmin (llen src) len))] (fun s'' => s'' = s') := by
   simp only [storePart, hf, if_true, hset, and_true]
   exact ⟨by simp only [nadd]; omega⟩
  obtain ⟨s'', rfl, q1, q2, q3, q4, q5⟩ := storePart_sound hpart ho ⟨hvl, trivial⟩
  obtain ⟨w', h1, h2, h3, _⟩ := put_sound (P := P) hR (vs := (lsub src 0 (nmin (llen src) len)).map (Value.int k2)) (yl := (lsub src 0 (nmin (llen src) len)).map (AC.int k2)) hn q1 q2 q3 (by simpa using hvl) (fun u hu => by obtain ⟨_, _, rfl⟩ := List.mem_map.1 hu; rfl) (fun j b u hb hu => by
   simp only [List.getElem?_map, Option.map_eq_some_iff] at hb hu
   obtain ⟨p, hp, rfl⟩ := hb
   obtain ⟨p', hp', rfl⟩ := hu
   rw [hp] at hp'; cases hp'; rfl) (fun j => by rw [q5 j]; simp [flat, Seg.flat])
  rcases hx with rfl | ⟨rfl, rfl, A, rfl⟩
  ·exact ⟨_, w', _, run_copy (A := some (at_ ρ n (base + idx))) hu hs hG (fun x hx => by cases hx; exact h1) (fun q => by cases q), by omega, h3, h⟩
  ·have hm0 : nmin (llen src) 0 = 0 := by omega
   have hv0 : lsub src 0 (nmin (llen src) 0) = [] := by rw [hm0] at hvl; cases hq : lsub src 0 (nmin (llen src) 0) <;> simp_all
   have hw : w' = w := by rw [hv0] at h1; simp [storeCells] at h1; exact h1.symm
   subst hw
   exact ⟨_, w', _, run_copy hu hs hG (fun x hx => by rw [hv0]; simp [storeCells]) (fun _ => rfl), by omega, h3, h⟩
end
section
variable {P : Program} {E : Env} {ρ : Rho} {fr : Fr} {σ : Mem} {a : Act} {w : World}
theorem ints_elt {L : Loc} {k : IntKind} {l : List Int} (h : VRep w L [.ints k l]) : EltRep w ⟨L.a, L.len, L.cap⟩ k l := by
 have hl : l.length = L.len := h.ok (.ints k l) (by simp)
 have e1 : cwidth [Col.ints k l] = 1 := rfl
 refine ⟨hl.symm, h.cap, fun hne => ⟨_, h.adr (fun q => hne (by cases l <;> simp_all))⟩, fun j x hx A hA => ?_⟩
 have hlt := (List.getElem?_eq_some_iff.1 hx).1
 have had := h.adr (by omega)
 have hA' : L.a = some A := hA
 rw [had] at hA'
 cases hA'
 rw [Loc.at_add, Nat.zero_add]
 have := h.cells j (by omega) 0 (by rw [e1]; omega)
 rw [e1, Nat.mul_one, Nat.add_zero] at this
 rw [this]
 simp [rowVal, Col.kd, Kd.width, colVal, lget, List.getD, hx]
structure Shares (ρ : Rho) (σ : Mem) (w : World) (v : Value) (k : IntKind) (l : List Int) (e : Elt) (σ1 : Mem) : Prop where
 val : v = .slice e.a e.len e.cap
 rep : EltRep w e k l
 clean : l ≠ [] → ∀ x, e.a = some x → Clean ρ σ1 x.block ∧ x.block < w.heap.size
 less : ∀ m b, Mem.find σ1 m = some b → Mem.find σ m = some b
theorem Reads.shares {v : Value} {k : IntKind} {l : List Int} {L : Loc} {σ1 : Mem} (h : Reads ρ σ w v [.ints k l] L) (hc : L.len ≠ 0 → Clean ρ σ1 L.1) (hl : ∀ m b, Mem.find σ1 m = some b → Mem.find σ m = some b) : Shares ρ σ w v k l ⟨L.a, L.len, L.cap⟩ σ1 := by
 have hlen : l.length = L.len := h.rep.ok (.ints k l) (by simp)
 refine ⟨h.val, ints_elt h.rep, fun hne x hx => ?_, hl⟩
 have h0 : L.len ≠ 0 := fun q => hne (by cases l <;> simp_all)
 have had := h.rep.adr h0
 have hx' : L.a = some x := hx
 rw [had] at hx'
 cases hx'
 exact ⟨hc h0, footL_lt h.rep (Or.inl ⟨h0, rfl⟩)⟩
theorem clean_erase (hs : Sep ρ σ) {n k : Nat} {b : Blk} (hn : Mem.find σ n = some b) (hf : Foot ρ n b k) : Clean ρ (σ.erase n) k := by
 intro m c hm hO
 rw [find_erase] at hm
 split at hm
 ·cases hm
 ·rename_i hne
  exact hs.1 m n c b k hm hn hne hO hf
theorem clean_view (hs : Sep ρ σ) {n k : Nat} {b : Blk} (hn : Mem.find σ n = some b) (hf : Foot ρ n b k) (hv : ∀ k, ¬ Out ρ n b k) : Clean ρ σ k := by
 intro m c hm hO
 by_cases e : m = n
 ·subst e; rw [hn] at hm; cases hm; exact hv k hO
 ·exact hs.1 m n c b k hm hn e hO hf
theorem sharex_sound {k : IntKind} {x : AC} {v : Value} {K : List Int → Mem → Prop} (h : sharex σ k x K) (hm : MemRep ρ σ w) (hs : Sep ρ σ) (hx : CRep ρ x v) : ∃ l e σ1, Shares ρ σ w v k l e σ1 ∧ K l σ1 := by
 have one : ∀ {cs : List Col} {σ' : Mem}, oneInts k (fun l => K l σ') cs → ∃ l, cs = [.ints k l] ∧ K l σ' := by
  intro cs σ' h'
  unfold oneInts at h'
  split at h' <;> try exact h'.elim
  split at h' <;> try exact h'.elim
  rename_i hk
  subst hk
  exact ⟨_, rfl, h'⟩
 have id_less : ∀ m b, Mem.find σ m = some b → Mem.find σ m = some b := fun _ _ q => q
 cases x with
 | vec n =>
  simp only [sharex, rdx] at h
  have foot : ∀ {cs b}, Mem.find σ n = some b → Mem.cols σ n = some cs → (ρ n).len ≠ 0 → Foot ρ n b (ρ n).1 := fun {cs b} hb hcs q => by
   obtain ⟨_, b', hb', _, hf⟩ := cols_sound hm hcs
   rw [hb] at hb'; cases hb'
   exact hf _ (Or.inl ⟨q, rfl⟩)
  cases hn : Mem.find σ n with
  | none => simp [hn, Mem.cols] at h
  | some b =>
   cases b with
   | vec cs =>
    have hcs : Mem.cols σ n = some cs := by simp [Mem.cols, hn]
    simp only [hn, hcs] at h
    obtain ⟨l, rfl, hK⟩ := one h
    exact ⟨l, _, _, (reads_vec hm hs hcs hx).shares (fun q => clean_erase hs hn (foot hn hcs q)) (erase_less n), hK⟩
   | rview cs =>
    have hcs : Mem.cols σ n = some cs := by simp [Mem.cols, hn]
    simp only [hn, hcs] at h
    obtain ⟨l, rfl, hK⟩ := one h
    exact ⟨l, _, _, (reads_vec hm hs hcs hx).shares (fun q => clean_view hs hn (foot hn hcs q) (fun k q => q)) id_less, hK⟩
   | own T s => simp [hn, Mem.cols] at h
   | view s => simp [hn, Mem.cols] at h
   | heap q os => simp [hn, Mem.cols] at h
   | map kk m => simp [hn, Mem.cols] at h
 | vsl n z i len =>
  simp only [sharex, rdx] at h
  have foot : ∀ {cs b}, Mem.find σ n = some b → Mem.cols σ n = some cs → (ρ n).len ≠ 0 → Foot ρ n b (ρ n).1 := fun {cs b} hb hcs q => by
   obtain ⟨_, b', hb', _, hf⟩ := cols_sound hm hcs
   rw [hb] at hb'; cases hb'
   exact hf _ (Or.inl ⟨q, rfl⟩)
  have hi := hx
  obtain ⟨_, _, _, _, hle, _⟩ := hi
  cases hn : Mem.find σ n with
  | none => simp [hn, Mem.cols] at h
  | some b =>
   cases b with
   | vec cs =>
    have hcs : Mem.cols σ n = some cs := by simp [Mem.cols, hn]
    simp only [hn, hcs] at h
    split at h <;> try exact h.elim
    rename_i hz
    obtain ⟨l, hl, hK⟩ := one h
    obtain ⟨A, cap, hr, _⟩ := reads_vsl hm hs hcs (beq_nat hz) (vsl_vcl hx)
    rw [hl] at hr
    exact ⟨l, _, _, hr.shares (fun q => clean_erase hs hn (foot hn hcs (by have : len ≠ 0 := q; omega))) (erase_less n), hK⟩
   | rview cs =>
    have hcs : Mem.cols σ n = some cs := by simp [Mem.cols, hn]
    simp only [hn, hcs] at h
    split at h <;> try exact h.elim
    rename_i hz
    obtain ⟨l, hl, hK⟩ := one h
    obtain ⟨A, cap, hr, _⟩ := reads_vsl hm hs hcs (beq_nat hz) (vsl_vcl hx)
    rw [hl] at hr
    exact ⟨l, _, _, hr.shares (fun q => clean_view hs hn (foot hn hcs (by have : len ≠ 0 := q; omega)) (fun k q => q)) id_less, hK⟩
   | own T s => simp [hn, Mem.cols] at h
   | view s => simp [hn, Mem.cols] at h
   | heap q os => simp [hn, Mem.cols] at h
   | map kk m => simp [hn, Mem.cols] at h
 | vcl n z i len =>
  simp only [sharex, rdx] at h
  have foot : ∀ {cs b}, Mem.find σ n = some b → Mem.cols σ n = some cs → (ρ n).len ≠ 0 → Foot ρ n b (ρ n).1 := fun {cs b} hb hcs q => by
   obtain ⟨_, b', hb', _, hf⟩ := cols_sound hm hcs
   rw [hb] at hb'; cases hb'
   exact hf _ (Or.inl ⟨q, rfl⟩)
  have hi := hx
  obtain ⟨_, _, _, _, hle, _⟩ := hi
  cases hn : Mem.find σ n with
  | none => simp [hn, Mem.cols] at h
  | some b =>
   cases b with
   | vec cs =>
    have hcs : Mem.cols σ n = some cs := by simp [Mem.cols, hn]
    simp only [hn, hcs] at h
    split at h <;> try exact h.elim
    rename_i hz
    obtain ⟨l, hl, hK⟩ := one h
    obtain ⟨A, cap, hr, _⟩ := reads_vsl hm hs hcs (beq_nat hz) hx
    rw [hl] at hr
    exact ⟨l, _, _, hr.shares (fun q => clean_erase hs hn (foot hn hcs (by have : len ≠ 0 := q; omega))) (erase_less n), hK⟩
   | rview cs =>
    have hcs : Mem.cols σ n = some cs := by simp [Mem.cols, hn]
    simp only [hn, hcs] at h
    split at h <;> try exact h.elim
    rename_i hz
    obtain ⟨l, hl, hK⟩ := one h
    obtain ⟨A, cap, hr, _⟩ := reads_vsl hm hs hcs (beq_nat hz) hx
    rw [hl] at hr
    exact ⟨l, _, _, hr.shares (fun q => clean_view hs hn (foot hn hcs (by have : len ≠ 0 := q; omega)) (fun k q => q)) id_less, hK⟩
   | own T s => simp [hn, Mem.cols] at h
   | view s => simp [hn, Mem.cols] at h
   | heap q os => simp [hn, Mem.cols] at h
   | map kk m => simp [hn, Mem.cols] at h
 | hs k' j off len => simp [sharex] at h
 | hp k' j i => simp [sharex, rdx] at h
 | map n => simp [sharex, rdx] at h
 | sl n base idx len cap =>
  simp only [sharex, rdx] at h
  cases hn : Mem.find σ n with
  | none => simp [hn] at h
  | some b =>
   simp only [hn] at h
   have seg : ∀ {σ' : Mem}, (match findSeg b.segs base with | some (.ints k' N l) => Fits (nadd idx len) N ∧ oneInts k (fun l => K l σ') [Col.ints k' (lsub l idx len)] | _ => False) →
     ∃ N l, findSeg b.segs base = some (.ints k N l) ∧ idx + len ≤ N ∧ K (lsub l idx len) σ' := by
    intro σ' h
    split at h <;> try exact h.elim
    rename_i k' N l hf
    obtain ⟨h1, h2⟩ := h
    obtain ⟨l', hl', hK⟩ := one h2
    simp only [List.cons.injEq, Col.ints.injEq, and_true] at hl'
    obtain ⟨rfl, rfl⟩ := hl'
    exact ⟨N, l, hf, h1.le, hK⟩
   have foot : ∀ {L : Loc} {l : List Int} {N}, findSeg b.segs base = some (.ints k N l) → idx + len ≤ N → (L.cap ≠ 0 → L.cap = cap ∧ L.1 = (ρ n).1 ∧ L.2 = (ρ n).2 + (base + idx) ∧ L.a = some (L.at 0)) → Reads ρ σ w v [.ints k (lsub l idx len)] L → L.len ≠ 0 → Foot ρ n b L.1 := by
    intro L l N hf hle h2 hr q
    have hc := hr.rep.cap
    rw [(h2 (by omega)).2.1]
    have hl : (lsub l idx len).length = L.len := hr.rep.ok (.ints k _) (by simp)
    have hne : flat b.segs ≠ [] := fun e => by
     have h1 := findSeg_len hf
     have h3 := flat_length (hm n b hn).cells.1
     rw [e] at h3
     simp only [Seg.len] at h1
     simp at h3
     have : N = 0 := by omega
     have : len = 0 := by omega
     subst this
     simp [lsub] at hl
     exact q hl.symm
    cases b with
    | own T s => rfl
    | view s => exact ⟨hne, rfl⟩
    | vec cs => exact absurd rfl hne
    | rview cs => exact absurd rfl hne
    | heap q os => exact absurd rfl hne
    | map kk m => exact absurd rfl hne
   cases b with
   | own T s =>
    simp only at h
    obtain ⟨N, l, hf, hle, hK⟩ := seg h
    obtain ⟨L, hr, h2⟩ := reads_sl hm hs hn hf hle hx
    exact ⟨_, _, _, hr.shares (fun q => clean_erase hs hn (foot hf hle h2 hr q)) (erase_less n), hK⟩
   | view s =>
    simp only at h
    obtain ⟨N, l, hf, hle, hK⟩ := seg h
    obtain ⟨L, hr, h2⟩ := reads_sl hm hs hn hf hle hx
    exact ⟨_, _, _, hr.shares (fun q => clean_view hs hn (foot hf hle h2 hr q) (fun k q => q)) id_less, hK⟩
   | vec cs => simp [Blk.segs, findSeg] at h
   | rview cs => simp [Blk.segs, findSeg] at h
   | heap q os => simp [Blk.segs, findSeg] at h
   | map kk m => simp [Blk.segs, findSeg] at h
 | el n c i =>
  have h' : rdx σ [.ints k] (.one (.el n c i)) (oneInts k fun l => K l σ) := h
  simp only [rdx] at h'
  split at h' <;> try exact h'.elim
  rename_i k' ll hr
  obtain ⟨l, hl, hK⟩ := one h'
  cases hl
  obtain ⟨cs, hc, hlen, hV, b, hb, hbb, hf⟩ := rows_sound hm hr
  obtain ⟨rfl, hi⟩ := hx
  have he := hV.inner c k ll hc i _ (llget_some (by omega))
  refine ⟨_, _, σ, ⟨rfl, he, fun hne x hx => ?_, id_less⟩, hK⟩
  have hin : Inner (ρ n) cs x.block := ⟨c, k, ll, i, _, x, hc, llget_some (by omega), hne, hx, rfl⟩
  refine ⟨hs.inn hb ?_, inner_lt hV hin⟩
  rcases hbb with rfl | rfl <;> exact hin
 | esl n c i o len =>
  have h' : rdx σ [.ints k] (.one (.esl n c i o len)) (oneInts k fun l => K l σ) := h
  have h0 := h'
  simp only [rdx] at h'
  split at h' <;> try exact h'.elim
  rename_i k' ll hr
  obtain ⟨l, hl, hK⟩ := one h'
  cases hl
  obtain ⟨cs, hc, hlen, hV, b, hb, hbb, hf⟩ := rows_sound hm hr
  obtain ⟨A, cap, rfl, g1, g2, g3, g4, g5⟩ := hx
  have he := hV.inner c k ll hc i _ (llget_some (by omega))
  obtain ⟨q1, q2, q3, q4⟩ := he
  have hls := lsub_len (llget ll i) o len (by omega)
  refine ⟨_, ⟨A, len, cap⟩, σ, ⟨rfl, ⟨hls.symm, g1, fun hne => ?_, fun j x hx B hB => ?_⟩, fun hne x hx => ?_, id_less⟩, hK⟩
  ·have h1 : len ≠ 0 := fun q => hne (by subst q; cases hq : lsub (llget ll i) o 0 <;> simp_all)
   rcases g4 with g4 | rfl
   ·omega
   ·obtain ⟨a', ha'⟩ := g5 (by omega)
    exact ⟨_, by rw [ha']; rfl⟩
  ·rw [lsub_get] at hx
   split at hx
   ·rename_i hj
    rcases g4 with g4 | rfl
    ·omega
    ·simp only [Option.map_eq_some_iff] at hB
     obtain ⟨a', ha', rfl⟩ := hB
     rw [addr_add_add]
     exact q4 _ x hx a' ha'
   ·cases hx
  ·have h1 : len ≠ 0 := fun q => hne (by subst q; cases hq : lsub (llget ll i) o 0 <;> simp_all)
   rcases g4 with g4 | rfl
   ·omega
   ·simp only [Option.map_eq_some_iff] at hx
    obtain ⟨a', ha', rfl⟩ := hx
    have hbk : (a'.add o).block = a'.block := by unfold Addr.add; split <;> rfl
    rw [hbk]
    have hin : Inner (ρ n) cs a'.block := ⟨c, k, ll, i, _, a', hc, llget_some (by omega), fun e => by rw [e] at q1; simp at q1; omega, ha', rfl⟩
    refine ⟨hs.inn hb ?_, inner_lt hV hin⟩
    rcases hbb with rfl | rfl <;> exact hin
 | con c =>
  have h' : rdx σ [.ints k] (.one (.con c)) (oneInts k fun l => K l σ) := h
  unfold rdx at h'
  split at h' <;> try exact h'.elim
  all_goals (try (rename_i q; cases q; done))
  rename_i q
  cases q
  obtain ⟨l, hl, hK⟩ := one h'
  simp only [List.map_cons, List.map_nil, Kd.nil, List.cons.injEq, Col.ints.injEq, true_and, and_true] at hl
  subst hl
  obtain ⟨rfl, _⟩ := hx
  exact ⟨[], ⟨none, 0, 0⟩, σ, ⟨rfl, ⟨rfl, Nat.le_refl _, fun q => absurd rfl q, fun j x hx => by simp at hx⟩, fun q => absurd rfl q, id_less⟩, hK⟩
 | int k n => simp [sharex, rdx] at h
 | lit b => simp [sharex, rdx] at h
 | bool b => simp [sharex, rdx] at h
 | str s => simp [sharex, rdx] at h
 | ptr n b i => simp [sharex, rdx] at h
 | clo f n b i => simp [sharex, rdx] at h
 | vptr n z i b j => simp [sharex, rdx] at h
 | eptr n c i o => simp [sharex, rdx] at h
 | any => simp [sharex, rdx] at h
def FldRep (ρ : Rho) : List Fld → List Value → Prop
 | [], vs => vs = []
 | .a x :: r, vs => ∃ v s, vs = v :: s ∧ CRep ρ x v ∧ FldRep ρ r s
 | .g k m l :: r, vs => l.length = m ∧ ∃ s, vs = l.map (Value.int k) ++ s ∧ FldRep ρ r s
theorem FldRep.cells : ∀ {cs : List AC} {r : List Fld} {vs us : List Value}, FRep ρ cs vs → FldRep ρ r us → FldRep ρ (cs.map Fld.a ++ r) (vs ++ us)
 | [], r, vs, us, h, hr => by
  have : vs = [] := by have := h.1; cases vs <;> simp_all
  subst this; exact hr
 | c :: cs, r, vs, us, h, hr => by
  cases vs with
  | nil => have := h.1; simp at this
  | cons v vs =>
   refine ⟨v, vs ++ us, rfl, h.2 0 c v rfl rfl, FldRep.cells ⟨by simpa using h.1, fun j x u hx hu => h.2 (j + 1) x u (by simpa using hx) (by simpa using hu)⟩ hr⟩
theorem FRep.split {l1 l2 : List AC} {vs : List Value} (h : FRep ρ (l1 ++ l2) vs) : ∃ v1 v2, vs = v1 ++ v2 ∧ FRep ρ l1 v1 ∧ FRep ρ l2 v2 := by
 have hl := h.1
 simp at hl
 refine ⟨vs.take l1.length, vs.drop l1.length, by simp, ⟨by simp; omega, fun j x u hx hu => ?_⟩, ⟨by simp; omega, fun j x u hx hu => ?_⟩⟩
 ·have hj := (List.getElem?_eq_some_iff.1 hx).1
  rw [List.getElem?_take, if_pos hj] at hu
  exact h.2 j x u (by rw [List.getElem?_append_left hj]; exact hx) hu
 ·rw [List.getElem?_drop] at hu
  exact h.2 (l1.length + j) x u (by rw [List.getElem?_append_right (by omega)]; simpa using hx) hu
theorem flds_rep : ∀ {s : List Seg} {fl : List Fld} {vs : List Value}, fldsOf s = some fl → segsOk s → FRep ρ (flat s) vs → FldRep ρ fl vs
 | [], fl, vs, h, _, hf => by
  simp only [fldsOf, Option.some.injEq] at h
  subst h
  have := hf.1
  cases vs <;> simp_all [flat, FldRep]
 | .cells cs :: r, fl, vs, h, ho, hf => by
  simp only [fldsOf, Option.map_eq_some_iff] at h
  obtain ⟨fr, hr, rfl⟩ := h
  obtain ⟨v1, v2, rfl, h1, h2⟩ := hf.split
  exact FldRep.cells h1 (flds_rep hr ho.2 h2)
 | .ints k n l :: r, fl, vs, h, ho, hf => by
  simp only [fldsOf, Option.map_eq_some_iff] at h
  obtain ⟨fr, hr, rfl⟩ := h
  obtain ⟨v1, v2, rfl, h1, h2⟩ := hf.split
  refine ⟨ho.1, v2, ?_, flds_rep hr ho.2 h2⟩
  congr 1
  apply List.ext_getElem?
  intro j
  have hlen := h1.1
  simp only [Seg.flat, List.length_map] at hlen
  by_cases hj : j < l.length
  ·have hv : j < v1.length := by omega
   have := h1.2 j (.int k l[j]) v1[j] (by simp [Seg.flat, hj]) (List.getElem?_eq_getElem hv)
   have e : v1[j] = .int k l[j] := this
   simp [hj, hv, e]
  ·simp [List.getElem?_eq_none (show v1.length ≤ j by omega), List.getElem?_eq_none (show (l.map (Value.int k)).length ≤ j by simp; omega)]
 | .bools _ _ :: _, fl, vs, h, _, _ => by simp [fldsOf] at h
structure Recs (ρ : Rho) (σ : Mem) (w : World) (vs : List Value) (ks : List Kd) (cs : List Col) (c : Nat) (L : Loc) (σ1 : Mem) : Prop where
 len : L.len = 1
 kds : kdsOf cs = ks
 ok : ∀ x ∈ cs, x.ok 1
 vlen : vs.length = width ks
 cells : ∀ t, t < width ks → vs[t]? = some (rowVal L cs c 0 t)
 inner : ∀ j k ll, cs[j]? = some (Col.rows k ll) → ∀ i l, ll[i]? = some l → EltRep w (L.el (c + j) i) k l ∧ (l ≠ [] → ∀ x, (L.el (c + j) i).a = some x → Clean ρ σ1 x.block ∧ x.block < w.heap.size)
 lnk : ∀ j k ll, cs[j]? = some (Col.hss k ll) → ∀ i d, ll[i]? = some d → CRep ρ (.hs k d.j d.off d.len) (.slice (L.el (c + j) i).a (L.el (c + j) i).len (L.el (c + j) i).cap)
 less : ∀ m b, Mem.find σ1 m = some b → Mem.find σ m = some b
theorem Clean.less {σ σ1 : Mem} {k : Nat} (h : Clean ρ σ k) (hl : ∀ m b, Mem.find σ1 m = some b → Mem.find σ m = some b) : Clean ρ σ1 k := fun m b hb => h m b (hl m b hb)
theorem Rep.sub {σ1 : Mem} (hm : MemRep ρ σ w) (hs : Sep ρ σ) (hl : ∀ m b, Mem.find σ1 m = some b → Mem.find σ m = some b) : MemRep ρ σ1 w ∧ Sep ρ σ1 :=
 ⟨fun n b hb => hm n b (hl n b hb), fun n m b c k hn hm => hs.1 n m b c k (hl _ _ hn) (hl _ _ hm), fun n b k hn => hs.2 n b k (hl _ _ hn)⟩
def Loc.more (L : Loc) (c : Nat) (e : Elt) : Loc := { L with el := fun c' i => if c' = c then e else L.el c' i }
theorem rowVal_more {L : Loc} {c : Nat} {e : Elt} : ∀ {cs : List Col} {c' i t : Nat}, c < c' → rowVal (L.more c e) cs c' i t = rowVal L cs c' i t
 | [], _, _, _, _ => rfl
 | x :: r, c', i, t, h => by
  simp only [rowVal]
  split
  ·have hne : ¬ c' = c := by omega
   cases x <;> simp [colVal, Loc.more, hne]
  ·exact rowVal_more (by omega)
theorem rowVal_succ1 {L : Loc} {x : Col} {r : List Col} {c i t : Nat} (h : x.kd.width = 1) : rowVal L (x :: r) c i (t + 1) = rowVal L r (c + 1) i t := by
 simp only [rowVal]
 rw [if_neg (by omega), h]
 rfl
theorem recx_sound : ∀ {ks : List Kd} {fl : List Fld} {σ : Mem} {vs : List Value} {c : Nat} {K : List Col → Mem → Prop}, recx σ ks fl K → FldRep ρ fl vs → MemRep ρ σ w → Sep ρ σ → ∃ cs L σ1, Recs ρ σ w vs ks cs c L σ1 ∧ K cs σ1
  | [], [], σ, vs, c, K, h, hf, hm, hs => by
    have : vs = [] := hf
    subst this
    exact ⟨[], ⟨0, 0, none, 1, 0, fun _ _ => ⟨none, 0, 0⟩⟩, σ, ⟨rfl, rfl, fun x hx => by simp at hx, rfl, fun t ht => absurd ht (Nat.not_lt_zero _), fun j k ll hc => by simp at hc, fun j k ll hc => by simp at hc, fun _ _ q => q⟩, h⟩
  | .ints k :: ks, .a x :: fl, σ, vs, c, K, h, hf, hm, hs => by
    cases x with
    | int k' v =>
        simp only [recx] at h
        split at h <;> try exact h.elim
        rename_i hk
        subst hk
        obtain ⟨u, us, rfl, hu, hf⟩ := hf
        obtain ⟨cs, L, σ1, hr, hK⟩ := recx_sound (c := c + 1) h hf hm hs
        have hu' : u = .int k' v := hu
        subst hu'
        refine ⟨_, L, σ1, ⟨hr.len, by simp only [kdsOf, List.map_cons, Col.kd]; rw [← hr.kds]; rfl, fun x hx => ?_, by simp only [List.length_cons, hr.vlen, width, Kd.width]; omega, fun t ht => ?_, fun j k ll hc i l hl => ?_, fun j k ll hc i d hd => by
          cases j with
          | zero => simp at hc
          | succ j => have := hr.lnk j k ll (by simpa using hc) i d hd; rw [show c + (j + 1) = c + 1 + j by omega]; exact this, hr.less⟩, hK⟩
        · rcases List.mem_cons.1 hx with rfl | hx
          · rfl
          · exact hr.ok x hx
        · have hw : width (.ints k' :: ks) = 1 + width ks := rfl
          cases t with
          | zero => simp [rowVal, Col.kd, Kd.width, colVal, lget]
          | succ t => rw [rowVal_succ1 rfl]; simp only [List.getElem?_cons_succ]; exact hr.cells t (by omega)
        · cases j with
          | zero => simp at hc
          | succ j => have := hr.inner j k ll (by simpa using hc) i l hl; rw [show c + (j + 1) = c + 1 + j by omega]; exact this
    | _ => simp [recx] at h
  | .bools :: ks, .a x :: fl, σ, vs, c, K, h, hf, hm, hs => by
    cases x with
    | bool v =>
        simp only [recx] at h
        obtain ⟨u, us, rfl, hu, hf⟩ := hf
        obtain ⟨cs, L, σ1, hr, hK⟩ := recx_sound (c := c + 1) h hf hm hs
        have hu' : u = .bool v := hu
        subst hu'
        refine ⟨_, L, σ1, ⟨hr.len, by simp only [kdsOf, List.map_cons, Col.kd]; rw [← hr.kds]; rfl, fun x hx => ?_, by simp only [List.length_cons, hr.vlen, width, Kd.width]; omega, fun t ht => ?_, fun j k ll hc i l hl => ?_, fun j k ll hc i d hd => by
          cases j with
          | zero => simp at hc
          | succ j => have := hr.lnk j k ll (by simpa using hc) i d hd; rw [show c + (j + 1) = c + 1 + j by omega]; exact this, hr.less⟩, hK⟩
        · rcases List.mem_cons.1 hx with rfl | hx
          · rfl
          · exact hr.ok x hx
        · have hw : width (.bools :: ks) = 1 + width ks := rfl
          cases t with
          | zero => simp [rowVal, Col.kd, Kd.width, colVal, lgetb]
          | succ t => rw [rowVal_succ1 rfl]; simp only [List.getElem?_cons_succ]; exact hr.cells t (by omega)
        · cases j with
          | zero => simp at hc
          | succ j => have := hr.inner j k ll (by simpa using hc) i l hl; rw [show c + (j + 1) = c + 1 + j by omega]; exact this
    | lit v =>
        simp only [recx] at h
        obtain ⟨u, us, rfl, hu, hf⟩ := hf
        obtain ⟨cs, L, σ1, hr, hK⟩ := recx_sound (c := c + 1) h hf hm hs
        have hu' : u = .bool v := hu
        subst hu'
        refine ⟨_, L, σ1, ⟨hr.len, by simp only [kdsOf, List.map_cons, Col.kd]; rw [← hr.kds]; rfl, fun x hx => ?_, by simp only [List.length_cons, hr.vlen, width, Kd.width]; omega, fun t ht => ?_, fun j k ll hc i l hl => ?_, fun j k ll hc i d hd => by
          cases j with
          | zero => simp at hc
          | succ j => have := hr.lnk j k ll (by simpa using hc) i d hd; rw [show c + (j + 1) = c + 1 + j by omega]; exact this, hr.less⟩, hK⟩
        · rcases List.mem_cons.1 hx with rfl | hx
          · rfl
          · exact hr.ok x hx
        · have hw : width (.bools :: ks) = 1 + width ks := rfl
          cases t with
          | zero => simp [rowVal, Col.kd, Kd.width, colVal, lgetb]
          | succ t => rw [rowVal_succ1 rfl]; simp only [List.getElem?_cons_succ]; exact hr.cells t (by omega)
        · cases j with
          | zero => simp at hc
          | succ j => have := hr.inner j k ll (by simpa using hc) i l hl; rw [show c + (j + 1) = c + 1 + j by omega]; exact this
    | _ => simp [recx] at h
  | .strs :: ks, .a x :: fl, σ, vs, c, K, h, hf, hm, hs => by
    cases x with
    | str v =>
        simp only [recx] at h
        obtain ⟨u, us, rfl, hu, hf⟩ := hf
        obtain ⟨cs, L, σ1, hr, hK⟩ := recx_sound (c := c + 1) h hf hm hs
        have hu' : u = .string v := hu
        subst hu'
        refine ⟨_, L, σ1, ⟨hr.len, by simp only [kdsOf, List.map_cons, Col.kd]; rw [← hr.kds]; rfl, fun x hx => ?_, by simp only [List.length_cons, hr.vlen, width, Kd.width]; omega, fun t ht => ?_, fun j k ll hc i l hl => ?_, fun j k ll hc i d hd => by
          cases j with
          | zero => simp at hc
          | succ j => have := hr.lnk j k ll (by simpa using hc) i d hd; rw [show c + (j + 1) = c + 1 + j by omega]; exact this, hr.less⟩, hK⟩
        · rcases List.mem_cons.1 hx with rfl | hx
          · rfl
          · exact hr.ok x hx
        · have hw : width (.strs :: ks) = 1 + width ks := rfl
          cases t with
          | zero => simp [rowVal, Col.kd, Kd.width, colVal, sgets]
          | succ t => rw [rowVal_succ1 rfl]; simp only [List.getElem?_cons_succ]; exact hr.cells t (by omega)
        · cases j with
          | zero => simp at hc
          | succ j => have := hr.inner j k ll (by simpa using hc) i l hl; rw [show c + (j + 1) = c + 1 + j by omega]; exact this
    | _ => simp [recx] at h
  | .arrs k m :: ks, .g k' m' l :: fl, σ, vs, c, K, h, hf, hm, hs => by
    simp only [recx] at h
    split at h <;> try exact h.elim
    rename_i hk
    split at h <;> try exact h.elim
    rename_i hm'
    subst hk hm'
    obtain ⟨hl, us, rfl, hf⟩ := hf
    obtain ⟨cs, L, σ1, hr, hK⟩ := recx_sound (c := c + 1) h hf hm hs
    refine ⟨_, L, σ1, ⟨hr.len, by simp only [kdsOf, List.map_cons, Col.kd]; rw [← hr.kds]; rfl, fun x hx => ?_, by simp [hr.vlen, hl, width, Kd.width], fun t ht => ?_, fun j k ll hc i l hl => ?_, fun j k ll hc i d hd => by
          cases j with
          | zero => simp at hc
          | succ j => have := hr.lnk j k ll (by simpa using hc) i d hd; rw [show c + (j + 1) = c + 1 + j by omega]; exact this, hr.less⟩, hK⟩
    · rcases List.mem_cons.1 hx with rfl | hx
      · exact ⟨rfl, fun y hy => by simp at hy; subst hy; exact hl⟩
      · exact hr.ok x hx
    · have hw : width (.arrs k' m' :: ks) = m' + width ks := rfl
      have hkw : (Col.arrs k' m' [l]).kd.width = m' := rfl
      simp only [rowVal]
      rw [hkw]
      by_cases hlt : t < m'
      · rw [if_pos hlt, List.getElem?_append_left (by simp; omega)]
        simp [colVal, llget, lget, List.getD, show t < l.length by omega]
      · rw [if_neg hlt, List.getElem?_append_right (by simp; omega)]
        simp only [List.length_map, hl]
        exact hr.cells (t - m') (by omega)
    · cases j with
      | zero => simp at hc
      | succ j => have := hr.inner j k ll (by simpa using hc) i l hl; rw [show c + (j + 1) = c + 1 + j by omega]; exact this
  | .rows k :: ks, .a x :: fl, σ, vs, c, K, h, hf, hm, hs => by
    simp only [recx] at h
    obtain ⟨u, us, rfl, hu, hf⟩ := hf
    unfold rowx at h
    split at h
    · rename_i k' q o n
      split at h <;> try exact h.elim
      rename_i hk
      subst hk
      obtain ⟨A, cap, rfl, hrest⟩ := hu
      have hu : CRep ρ (.hs k' q o n) (.slice A n cap) := ⟨A, cap, rfl, hrest⟩
      obtain ⟨cs, L, σ2, hr, hK⟩ := recx_sound (c := c + 1) h hf hm hs
      refine ⟨_, L.more c ⟨A, n, cap⟩, σ2, ⟨hr.len, by simp only [kdsOf, List.map_cons, Col.kd]; rw [← hr.kds]; rfl, fun x hx => ?_, by simp only [List.length_cons, hr.vlen, width, Kd.width]; omega, fun t ht => ?_, fun j k ll hc i l' hl => ?_, fun j k ll hc i d hd => ?_, hr.less⟩, hK⟩
      · rcases List.mem_cons.1 hx with rfl | hx
        · rfl
        · exact hr.ok x hx
      · have hw : width (.rows k' :: ks) = 1 + width ks := rfl
        cases t with
        | zero => simp [rowVal, Col.kd, Kd.width, colVal, Loc.more]
        | succ t => rw [rowVal_succ1 rfl, rowVal_more (by omega)]; simp only [List.getElem?_cons_succ]; exact hr.cells t (by omega)
      · cases j with
        | zero => simp at hc
        | succ j =>
          have := hr.inner j k ll (by simpa using hc) i l' hl
          rw [show c + (j + 1) = c + 1 + j by omega]
          have hne : ¬ c + 1 + j = c := by omega
          simp only [Loc.more, if_neg hne]
          exact this
      · cases j with
        | zero =>
          simp only [List.getElem?_cons_zero, Option.some.injEq, Col.hss.injEq] at hc
          obtain ⟨rfl, rfl⟩ := hc
          cases i with
          | zero =>
            simp at hd
            subst hd
            simp only [Loc.more, Nat.add_zero, if_true]
            exact hu
          | succ i => simp at hd
        | succ j =>
          have := hr.lnk j k ll (by simpa using hc) i d hd
          rw [show c + (j + 1) = c + 1 + j by omega]
          have hne : ¬ c + 1 + j = c := by omega
          simp only [Loc.more, if_neg hne]
          exact this
    · obtain ⟨l, e, σ1, hsh, h⟩ := sharex_sound h hm hs hu
      obtain ⟨hm1, hs1⟩ := Rep.sub hm hs hsh.less
      obtain ⟨cs, L, σ2, hr, hK⟩ := recx_sound (c := c + 1) h hf hm1 hs1
      refine ⟨_, L.more c e, σ2, ⟨hr.len, by simp only [kdsOf, List.map_cons, Col.kd]; rw [← hr.kds]; rfl, fun x hx => ?_, by simp only [List.length_cons, hr.vlen, width, Kd.width]; omega, fun t ht => ?_, fun j k ll hc i l' hl => ?_, fun j k ll hc i d hd => ?_, fun m b hb => hsh.less m b (hr.less m b hb)⟩, hK⟩
      · rcases List.mem_cons.1 hx with rfl | hx
        · rfl
        · exact hr.ok x hx
      · have hw : width (.rows k :: ks) = 1 + width ks := rfl
        cases t with
        | zero => simp [rowVal, Col.kd, Kd.width, colVal, Loc.more, hsh.val]
        | succ t => rw [rowVal_succ1 rfl, rowVal_more (by omega)]; simp only [List.getElem?_cons_succ]; exact hr.cells t (by omega)
      · cases j with
        | zero =>
          simp only [List.getElem?_cons_zero, Option.some.injEq, Col.rows.injEq] at hc
          obtain ⟨rfl, rfl⟩ := hc
          cases i with
          | zero =>
            simp at hl
            subst hl
            simp only [Loc.more, Nat.add_zero, if_true]
            exact ⟨hsh.rep, fun hne x hx => ⟨(hsh.clean hne x hx).1.less hr.less, (hsh.clean hne x hx).2⟩⟩
          | succ i => simp at hl
        | succ j =>
          have := hr.inner j k ll (by simpa using hc) i l' hl
          rw [show c + (j + 1) = c + 1 + j by omega]
          have hne : ¬ c + 1 + j = c := by omega
          simp only [Loc.more, if_neg hne]
          exact this
      · cases j with
        | zero => simp at hc
        | succ j =>
          have := hr.lnk j k ll (by simpa using hc) i d hd
          rw [show c + (j + 1) = c + 1 + j by omega]
          have hne : ¬ c + 1 + j = c := by omega
          simp only [Loc.more, if_neg hne]
          exact this
  | [], _ :: _, _, _, _, _, h, _, _, _ => by simp [recx] at h
  | .ints _ :: _, [], _, _, _, _, h, _, _, _ => by simp [recx] at h
  | .bools :: _, [], _, _, _, _, h, _, _, _ => by simp [recx] at h
  | .arrs _ _ :: _, [], _, _, _, _, h, _, _, _ => by simp [recx] at h
  | .rows _ :: _, [], _, _, _, _, h, _, _, _ => by simp [recx] at h
  | .strs :: _, [], _, _, _, _, h, _, _, _ => by simp [recx] at h
  | .strs :: _, .g _ _ _ :: _, _, _, _, _, h, _, _, _ => by simp [recx] at h
  | .ints _ :: _, .g _ _ _ :: _, _, _, _, _, h, _, _, _ => by simp [recx] at h
  | .bools :: _, .g _ _ _ :: _, _, _, _, _, h, _, _, _ => by simp [recx] at h
  | .rows _ :: _, .g _ _ _ :: _, _, _, _, _, h, _, _, _ => by simp [recx] at h
  | .arrs _ _ :: _, .a _ :: _, _, _, _, _, h, _, _, _ => by simp [recx] at h
end
section
variable {P : Program} {E : Env} {ρ : Rho} {fr : Fr} {σ : Mem} {a : Act} {w : World}
theorem push_cat (x y : Col) : x.push y = x.cat y := by cases x <;> cases y <;> rfl
theorem pushCols_cat : ∀ (cs ds : List Col), pushCols cs ds = catCols cs ds
 | [], [] => rfl
 | [], _ :: _ => rfl
 | _ :: _, [] => rfl
 | x :: r, y :: s => by simp only [pushCols, catCols, push_cat, pushCols_cat r s]
theorem fill_list (size : Nat) : ∀ (parts : List (Nat × Value)) (i : Nat) (cells : Array Value), (∀ j p, parts[j]? = some p → p.1 = i + j ∧ p.2.cells.size = size) → (i + parts.length) * size ≤ cells.size →
  ∃ cells', Instr.fill (fun i => some (i * size, size)) cells parts = some cells' ∧ cells'.size = cells.size ∧ (∀ q, q < i * size → cells'[q]? = cells[q]?) ∧ ∀ (j : Nat) p t, parts[j]? = some p → t < size → cells'[(i + j) * size + t]? = p.2.cells[t]?
 | [], i, cells, _, _ => ⟨cells, rfl, rfl, fun _ _ => rfl, fun j p t h => by simp at h⟩
 | (i', v) :: parts, i, cells, hp, hfit => by
  obtain ⟨h1, h2⟩ := hp 0 _ rfl
  simp only [Nat.add_zero] at h1 h2
  subst h1
  simp only [List.length_cons] at hfit
  have hsz : i' * size + size ≤ cells.size := by
   have : (i' + 1) * size ≤ (i' + (parts.length + 1)) * size := Nat.mul_le_mul_right _ (by omega)
   rw [Nat.add_mul, Nat.one_mul] at this; omega
  obtain ⟨g1, g2⟩ := foldl_put (i' * size) v.cells.toList 0 cells
  have g2 := g2 (by simp; omega)
  have hfold : v.cells.zipIdx.foldl (fun cs (c, j) => cs.setIfInBounds (i' * size + j) c) cells = (v.cells.toList.zipIdx 0).foldl (fun cs p => cs.setIfInBounds (i' * size + p.2) p.1) cells := by
   rw [← Array.foldl_toList, Array.toList_zipIdx]
  obtain ⟨cells', e1, e2, e3, e4⟩ := fill_list size parts (i' + 1) ((v.cells.toList.zipIdx 0).foldl (fun cs p => cs.setIfInBounds (i' * size + p.2) p.1) cells) (fun j p hj => by
   have := hp (j + 1) p (by simpa using hj)
   exact ⟨by omega, this.2⟩) (by rw [g1]; rw [show i' + 1 + parts.length = i' + (parts.length + 1) by omega]; exact hfit)
  refine ⟨cells', ?_, e2.trans g1, fun q hq => ?_, fun j p t hj ht => ?_⟩
  ·simp only [Instr.fill]
   rw [if_neg (by simp [h2]; omega), hfold]
   exact e1
  ·rw [e3 q (by rw [Nat.add_mul]; omega), g2 q, if_neg (by omega)]
  ·cases j with
   | zero =>
    simp only [List.getElem?_cons_zero, Option.some.injEq] at hj
    subst hj
    rw [Nat.add_zero, e3 _ (by rw [Nat.add_mul]; omega), g2 _, if_pos (by simp [h2]; omega)]
    rw [Array.getElem?_toList]
    congr 1; omega
   | succ j =>
    have := e4 j p t (by simpa using hj) ht
    rw [show i' + 1 + j = i' + (j + 1) by omega] at this
    exact this
structure Built (ρ : Rho) (σ : Mem) (w : World) (ks : List Kd) (vals : List Value) (cs : List Col) (L : Loc) : Prop where
 len : L.len = vals.length
 kds : kdsOf cs = ks
 ok : ∀ x ∈ cs, x.ok L.len
 cells : ∀ i v, vals[i]? = some v → ∀ t, t < width ks → v.cells[t]? = some (rowVal L cs 0 i t)
 sizes : ∀ v ∈ vals, v.cells.size = width ks
 inner : ∀ j k ll, cs[j]? = some (Col.rows k ll) → ∀ i l, ll[i]? = some l → EltRep w (L.el j i) k l ∧ (l ≠ [] → ∀ x, (L.el j i).a = some x → Clean ρ σ x.block ∧ x.block < w.heap.size)
 lnk : Lnk ρ L cs
theorem Built.first {ks : List Kd} {v : Value} {ds : List Col} {M : Loc} {σ1 : Mem} (hr : Recs ρ σ w v.cells.toList ks ds 0 M σ1) : Built ρ σ1 w ks [v] ds M :=
 ⟨hr.len, hr.kds, by rw [hr.len]; exact hr.ok, fun i u hu t ht => by
  cases i with
  | zero =>
   simp at hu; subst hu
   have := hr.cells t ht
   rw [Array.getElem?_toList] at this
   exact this
  | succ i => simp at hu, fun u hu => by simp at hu; subst hu; have := hr.vlen; simpa using this, fun j k ll hc i l hl => by
  have := hr.inner j k ll hc i l hl
  rw [Nat.zero_add] at this
  exact this, fun j k ll hc i d hd => by
  have := hr.lnk j k ll hc i d hd
  rw [Nat.zero_add] at this
  exact this⟩
theorem Built.cat {ks : List Kd} {vals : List Value} {v : Value} {cs ds : List Col} {L M : Loc} {σ1 : Mem} (h : Built ρ σ w ks vals cs L) (hr : Recs ρ σ w v.cells.toList ks ds 0 M σ1) (hlk : likeCols cs ds = true) : Built ρ σ1 w ks (vals ++ [v]) (catCols cs ds) ⟨0, 0, none, L.len + M.len, 0, catEl L M⟩ := by
 have hk : kdsOf cs = kdsOf ds := h.kds.trans hr.kds.symm
 refine ⟨by simp [h.len, hr.len], by rw [catCols_kds hk, h.kds], catCols_ok hk hlk h.ok (by rw [hr.len]; exact hr.ok), fun i u hu t ht => ?_, fun u hu => ?_, fun j k ll hc i l hl => ?_, Lnk.cat rfl hk hlk h.ok h.lnk fun j k ll hc i d hd => by
  have := hr.lnk j k ll hc i d hd
  rw [Nat.zero_add] at this
  exact this⟩
 ·rw [rowVal_cat rfl hk hlk h.ok]
  by_cases hi : i < vals.length
  ·rw [List.getElem?_append_left hi] at hu
   rw [if_pos (by rw [h.len]; exact hi)]
   exact h.cells i u hu t ht
  ·rw [List.getElem?_append_right (by omega)] at hu
   have : i - vals.length = 0 := by
    by_cases q : i - vals.length = 0
    ·exact q
    ·obtain ⟨p, hp⟩ : ∃ p, i - vals.length = p + 1 := ⟨i - vals.length - 1, by omega⟩
     rw [hp] at hu; simp at hu
   rw [this] at hu
   simp at hu
   subst hu
   rw [if_neg (by rw [h.len]; exact hi), h.len, this]
   have := hr.cells t ht
   rw [Array.getElem?_toList] at this
   exact this
 ·rcases List.mem_append.1 hu with hu | hu
  ·exact h.sizes u hu
  ·simp at hu; subst hu; have := hr.vlen; simpa using this
 ·obtain ⟨l1, l2, g1, g2, rfl⟩ := catCols_rows hc hk hlk
  have hl1 : l1.length = L.len := h.ok _ (List.mem_of_getElem? g1)
  rw [List.getElem?_append] at hl
  simp only [catEl]
  by_cases hi : i < l1.length
  ·rw [if_pos hi] at hl
   rw [if_pos (by omega)]
   obtain ⟨q1, q2⟩ := h.inner j k l1 g1 i l hl
   exact ⟨q1, fun hne x hx => ⟨(q2 hne x hx).1.less hr.less, (q2 hne x hx).2⟩⟩
  ·rw [if_neg hi, hl1] at hl
   rw [if_neg (by omega)]
   have := hr.inner j k l2 g2 (i - L.len) l hl
   rw [Nat.zero_add] at this
   exact this
theorem recsx_sound {ks : List Kd} {len : Nat} : ∀ {parts : List (Nat × AV)} {ps : List (Nat × Value)} {σ : Mem} {i : Nat} {acc : List Col} {vals : List Value} {L : Loc} {K : List Col → Mem → Prop}, recsx ks len σ i parts acc K → MemRep ρ σ w → Sep ρ σ → Built ρ σ w ks vals acc L → vals.length = i →
  parts.length = ps.length → (∀ (j : Nat) p q, parts[j]? = some p → ps[j]? = some q → p.1 = q.1 ∧ SRep ρ p.2 q.2) →
  ∃ cs M σ1, Built ρ σ1 w ks (vals ++ ps.map (·.2)) cs M ∧ K cs σ1 ∧ (∀ m b, Mem.find σ1 m = some b → Mem.find σ m = some b) ∧ i + ps.length = len ∧ ∀ (j : Nat) q, ps[j]? = some q → q.1 = i + j
 | [], [], σ, i, acc, vals, L, K, h, hm, hs, hb, hi, _, _ => by
  simp only [recsx] at h
  split at h <;> try exact h.elim
  rename_i hq
  exact ⟨acc, L, σ, by simpa using hb, h, fun _ _ q => q, by simpa using beq_nat hq, fun j q hj => by simp at hj⟩
 | (j, v) :: parts, (j', u) :: ps, σ, i, acc, vals, L, K, h, hm, hs, hb, hi, hl, hps => by
  simp only [recsx] at h
  split at h <;> try exact h.elim
  rename_i hij
  split at h <;> try exact h.elim
  rename_i fl hfl
  simp only [Option.bind_eq_some_iff] at hfl
  obtain ⟨sg, hsg, hfl⟩ := hfl
  obtain ⟨h0, hv⟩ := hps 0 _ _ rfl rfl
  simp only at h0 hv
  obtain ⟨ho, hf⟩ := AV.segs_sound hsg hv
  obtain ⟨ds, M, σ1, hr, h⟩ := recx_sound (c := 0) h (flds_rep hfl ho hf) hm hs
  obtain ⟨hm1, hs1⟩ := Rep.sub hm hs hr.less
  have fin : ∀ {acc' : List Col} {vals' : List Value} {L' : Loc}, Built ρ σ1 w ks vals' acc' L' → vals' = vals ++ [u] → recsx ks len σ1 (i + 1) parts acc' K → ∃ cs M σ1, Built ρ σ1 w ks (vals ++ ((j', u) :: ps).map (·.2)) cs M ∧ K cs σ1 ∧ (∀ m b, Mem.find σ1 m = some b → Mem.find σ m = some b) ∧ i + ((j', u) :: ps).length = len ∧ ∀ (j : Nat) q, ((j', u) :: ps)[j]? = some q → q.1 = i + j := by
   intro acc' vals' L' hb' hv' h
   subst hv'
   obtain ⟨cs, N, σ2, e1, e2, e3, e4, e5⟩ := recsx_sound (parts := parts) (ps := ps) h hm1 hs1 hb' (by simp [hi]) (by simpa using hl) (fun j p q h1 h2 => hps (j + 1) p q (by simpa using h1) (by simpa using h2))
   refine ⟨cs, N, σ2, by simpa using e1, e2, fun m b q => hr.less m b (e3 m b q), by simp only [List.length_cons]; omega, fun k q hk => ?_⟩
   cases k with
   | zero => simp at hk; subst hk; have := beq_nat hij; simp only; omega
   | succ k => have := e5 k q (by simpa using hk); omega
  split at h
  ·have hv : vals = [] := List.eq_nil_of_length_eq_zero hi
   exact fin (Built.first hr) (by rw [hv]; rfl) h
  ·split at h <;> try exact h.elim
   rename_i hlk
   rw [pushCols_cat] at h
   exact fin (hb.cat hr hlk) rfl h
 | [], _ :: _, _, _, _, _, _, _, _, _, _, _, _, hl, _ => by simp at hl
 | _ :: _, [], _, _, _, _, _, _, _, _, _, _, _, hl, _ => by simp at hl
theorem nil_built {ks : List Kd} : Built ρ σ w ks [] (ks.map Kd.nil) loc0 := by
 refine ⟨rfl, nil_kds ks, fun x hx => ?_, fun i v h => by simp at h, fun v h => by simp at h, fun j k ll hc i l hl => ?_, nil_lnk⟩
 ·obtain ⟨kd, _, rfl⟩ := List.mem_map.1 hx
  cases kd <;> simp [Kd.nil, Col.ok, loc0]
 ·simp only [List.getElem?_map, Option.map_eq_some_iff] at hc
  obtain ⟨kd, _, hkd⟩ := hc
  cases kd <;> simp [Kd.nil] at hkd
  rw [hkd.2] at hl; simp at hl
theorem literal_sound {t e : TypeId} {ks : List Kd} {bytes len d : Nat} {parts : List (Nat × AV)} {ps : Array (Nat × Value)} {K : List Col → Mem → Prop} (hR : Rep E ρ fr σ a w) (hu : P.underlying t = some (.slice e)) (hk : elemKinds P e = some (ks, bytes)) (hle : len * width ks ≤ 16777216)
  (h : recsx ks len σ 0 parts (ks.map Kd.nil) K) (hl : parts.length = ps.toList.length) (hps : ∀ (j : Nat) p q, parts[j]? = some p → ps.toList[j]? = some q → p.1 = q.1 ∧ SRep ρ p.2 q.2) :
  ∃ cs σ1, K cs σ1 ∧ Rep E ρ fr σ1 a w ∧ (freshB d fr σ1 = true → ∃ v w' L, (Instr.buildSlice t len ps).run P w = .ok v w' ∧ v = .slice L.a L.len L.cap ∧ w.heap.size ≤ w'.heap.size ∧ Rep E (upd ρ d L) fr (Mem.ins d (.vec cs) σ1) a w') := by
 obtain ⟨i, z, hi, hz, hzero, hsize, hwid, hbytes, _⟩ := elemKinds_sound hk
 obtain ⟨cs, M, σ1, hB, hK, hless, hlen, hidx⟩ := recsx_sound (ps := ps.toList) h hR.mem hR.sep nil_built rfl hl hps
 rw [List.nil_append] at hB
 have hR1 : Rep E ρ fr σ1 a w := hR.less hR.fr hless
 refine ⟨cs, σ1, hK, hR1, fun hd => ?_⟩
 have hMl : M.len = len := by rw [hB.len, List.length_map]; omega
 have hcw : cwidth cs = width ks := by rw [cwidth, hB.kds]
 have hzs : z.cells.size = width ks := by have := zero_len hzero; simpa using this
 obtain ⟨cells', e1, e2, e3, e4⟩ := fill_list (width ks) ps.toList 0 ((Array.range (len * width ks)).map fun q => if len * width ks = 0 then (#[] : Array Value)[q % (#[] : Array Value).size]! else z.cells[q % z.cells.size]!) (fun j p hj => ⟨hidx j p hj, hB.sizes p.2 (List.mem_map.2 ⟨p, List.mem_of_getElem? hj, rfl⟩)⟩) (by
  rw [Nat.zero_add, Array.size_map, Array.size_range]; rw [show ps.toList.length = len by omega]; exact Nat.le_refl _)
 have hcs : cells'.size = len * width ks := by rw [e2, Array.size_map, Array.size_range]
 have hrun : (Instr.buildSlice t len ps).run P w = .ok (.slice (some ⟨w.heap.size, 0, none⟩) len len) (w.alloc (.cells cells' e)) := by
  have hn : ¬ (16777216 < len * width ks) := by omega
  by_cases h0 : len * width ks = 0
  ·simp only [h0, if_true] at e1
   simp [Instr.buildSlice, run_underlying hu, sizeOf, typeInfo, hi, hsize, h0, newRow]
   have e0 : ∀ f : Nat → Value, Array.map f (Array.range 0) = #[] := fun f => by simp [Array.range]
   rw [e0] at e1 ⊢
   rw [e1]
   simp
  ·simp only [h0, if_false] at e1
   simp [Instr.buildSlice, run_underlying hu, sizeOf, typeInfo, hi, hsize, h0, hn, zeroValue, hz, newRow, e1]
 let L : Loc := ⟨w.heap.size, 0, some ⟨w.heap.size, 0, none⟩, len, len, M.el⟩
 have new : (w.alloc (.cells cells' e)).heap[w.heap.size]? = some (.cells cells' e) := by
  show (w.heap.push _)[w.heap.size]? = _
  simp
 have old : ∀ k, k < w.heap.size → (w.alloc (.cells cells' e)).heap[k]? = w.heap[k]? := fun k hk => with_old (o := .cells cells' e) hk
 have rowel : ∀ {cs : List Col} {c i t : Nat}, rowVal L cs c i t = rowVal M cs c i t := by
  intro cs
  induction cs with
  | nil => intro c i t; rfl
  | cons x r ih =>
   intro c i t
   simp only [rowVal]
   split
   ·cases x <;> rfl
   ·exact ih
 have hV : VRep (w.alloc (.cells cells' e)) L cs := by
  refine ⟨fun q => by rw [q] at hcw; rw [← hcw] at hwid; exact absurd hwid (by decide), by rw [hcw]; exact hwid, fun x hx => by have := hB.ok x hx; rw [hMl] at this; exact this, Nat.le_refl _, fun _ => rfl, fun r hr t ht => ?_, fun c k ll hc r l hl => ?_⟩
  ·have hr' : r < len := hr
   rw [hcw] at ht ⊢
   have hrl : r < ps.toList.length := by omega
   have h4 := e4 r _ t (List.getElem?_eq_getElem hrl) ht
   rw [Nat.zero_add] at h4
   simp only [World.cell?, Loc.at, L, new, Option.isSome_none, Bool.false_eq_true, if_false, Nat.zero_add]
   rw [h4, hB.cells r _ (by rw [List.getElem?_map, List.getElem?_eq_getElem hrl]; rfl) t ht, ← rowel]
  ·obtain ⟨⟨q1, q2, q3, q4⟩, q5⟩ := hB.inner c k ll hc r l hl
   refine ⟨q1, q2, q3, fun j x hx A hA => ?_⟩
   have hbk : (A.add j).block = A.block := by unfold Addr.add; split <;> rfl
   have := old A.block (q5 (fun e => by subst e; simp at hx) A hA).2
   exact (cell_same (a := A.add j) (by rw [hbk]; exact this)).trans (q4 j x hx A hA)
 refine ⟨_, _, L, hrun, rfl, by show _ ≤ (w.heap.push _).size; simp, newvec (L := L) hR1 hd (C := cells') (T := e) (fz := (0, 0)) rfl rfl rfl rfl hV (fun c k ll hc i d hd => hB.lnk c k ll hc i d hd) (refs_no (freshB_parts hd).1) rfl rfl rfl (by rw [hcw, hcs]; exact Nat.le_refl _) (fun j _ => by simp) (fun k hk => ?_)⟩
 obtain ⟨c, kk, ll, r, l, A, h1, h2, h3, h4, rfl⟩ := hk
 exact (hB.inner c kk ll h1 r l h2).2 h3 A h4
end
section
variable {P : Program} {E : Env} {ρ : Rho} {fr : Fr} {σ : Mem} {a : Act} {w : World}
theorem ext_upd {h : Nat} {L' : Loc} (hx : HExt (ρ h) L') (n : Nat) : HExt (ρ n) (upd ρ h L' n) := by
 by_cases e : n = h
 ·subst e; rw [upd_eq]; exact hx
 ·exact .of_eq (upd_ne e)
theorem heap_grow {w' : World} {h : Nat} {k : IntKind} {os os' : List (List Int)} {L' : Loc} (hR : Rep E ρ fr σ a w) (hh : isHeap h = true) (hf : Mem.find σ h = some (.heap k os)) (hx : HExt (ρ h) L') (hB : HeapRep w' L' k os') (hk : Keeps E.ex E.w0 w')
  (hother : ∀ m c q, Mem.find σ m = some c → m ≠ h → Foot ρ m c q → w'.heap[q]? = w.heap[q]?)
  (hfoot : ∀ q, HFoot L' q → HFoot (ρ h) q ∨ ((E.w0.heap.size ≤ q ∨ E.ex q) ∧ ∀ m c, Mem.find σ m = some c → m ≠ h → ¬ Foot ρ m c q)) :
  Rep E (upd ρ h L') fr (σ.put h (.heap k os')) a w' := by
 have ext := ext_upd hx
 have un : ∀ {m c}, Mem.find (σ.put h (.heap k os')) m = some c → (m = h ∧ c = .heap k os') ∨ (m ≠ h ∧ Mem.find σ m = some c) := by
  intro m c hm
  rw [find_put] at hm
  split at hm
  ·rename_i e; rw [hf] at hm; simp only [Option.map_some, Option.some.injEq] at hm; exact Or.inl ⟨e, hm.symm⟩
  ·rename_i e; exact Or.inr ⟨e, hm⟩
 refine ⟨hR.fr.agree fun n _ => ext n, hR.df, fun m c hm => ?_, ⟨fun m q c d x hm hq hmq hO hF => ?_, fun m c x hm hO hI => ?_⟩, fun n hn hq => ?_, fun n hn => (hR.ext n hn).trans (ext n), fun m c x hm hO => ?_, hk⟩
 ·rcases un hm with ⟨rfl, rfl⟩ | ⟨hne, hm'⟩
  ·exact ⟨hh, by rw [upd_eq]; exact hB⟩
  ·exact ((hR.mem m c hm').keeps fun x hx => hother m c x hm' hne hx).agree (upd_ne hne) (fun n _ => ext n)
 ·rcases un hm with ⟨rfl, rfl⟩ | ⟨hne, hm'⟩
  ·have hO : HFoot L' x := by simpa only [Out, upd_eq] using hO
   rcases un hq with ⟨rfl, _⟩ | ⟨hne', hq'⟩
   ·exact hmq rfl
   ·have hF := (Foot.agree (upd_ne hne')).1 hF
    rcases hfoot x hO with h1 | ⟨_, h1⟩
    ·exact hR.sep.1 m q _ d x hf hq' hmq h1 hF
    ·exact h1 q d hq' hne' hF
  ·have hO' := (Out.agree (upd_ne hne)).1 hO
   rcases un hq with ⟨rfl, rfl⟩ | ⟨hne', hq'⟩
   ·have hF : HFoot L' x := by simpa only [Foot, upd_eq] using hF
    rcases hfoot x hF with h1 | ⟨_, h1⟩
    ·exact hR.sep.1 m q c _ x hm' hf hmq hO' h1
    ·exact h1 m c hm' hne hO'.foot
   ·exact hR.sep.1 m q c d x hm' hq' hmq hO' ((Foot.agree (upd_ne hne')).1 hF)
 ·rcases un hm with ⟨rfl, rfl⟩ | ⟨hne, hm'⟩
  ·exact hI.elim
  ·exact hR.sep.2 m c x hm' ((Out.agree (upd_ne hne)).1 hO) ((Inn.agree (upd_ne hne)).1 hI)
 ·rw [← hR.fix n hn hq]; exact upd_ne fun e => by subst e; rw [hh] at hq; cases hq
 ·rcases un hm with ⟨rfl, rfl⟩ | ⟨hne, hm'⟩
  ·have hO : HFoot L' x := by simpa only [Out, upd_eq] using hO
   rcases hfoot x hO with h1 | ⟨h1, _⟩
   ·exact hR.own m _ x hf h1
   ·exact h1
  ·exact hR.own m c x hm' ((Out.agree (upd_ne hne)).1 hO)
def Loc.grow (L : Loc) (e : Elt) : Loc := { L with el := fun c i => if i < L.len then L.el c i else if c = 0 ∧ i = L.n then e else if c = 1 ∧ i = 0 then ⟨none, L.n + 1, 0⟩ else L.el c i }
theorem grow_n {L : Loc} (h : L.len = 0) (e : Elt) : (L.grow e).n = L.n + 1 := by
 show (if 0 < L.len then L.el 1 0 else if (1 : Nat) = 0 ∧ 0 = L.n then e else if (1 : Nat) = 1 ∧ 0 = 0 then ⟨none, L.n + 1, 0⟩ else L.el 1 0).len = _
 rw [if_neg (by omega), if_neg (by omega), if_pos (by omega)]
theorem grow_new {L : Loc} (h : L.len = 0) (e : Elt) : (L.grow e).el 0 L.n = e := by
 show (if L.n < L.len then _ else if (0 : Nat) = 0 ∧ L.n = L.n then e else _) = _
 rw [if_neg (by omega), if_pos (by omega)]
theorem grow_old {L : Loc} (h : L.len = 0) (e : Elt) {i : Nat} (hi : i ≠ L.n) : (L.grow e).el 0 i = L.el 0 i := by
 show (if i < L.len then L.el 0 i else if (0 : Nat) = 0 ∧ i = L.n then e else if (0 : Nat) = 1 ∧ i = 0 then _ else L.el 0 i) = _
 rw [if_neg (by omega), if_neg (by omega), if_neg (by omega)]
theorem grow_ext {L : Loc} (h : L.len = 0) (e : Elt) : HExt L (L.grow e) :=
 ⟨rfl, rfl, rfl, rfl, rfl, fun c i hi => by omega, by rw [grow_n h]; omega, fun j hj => by rw [grow_old h e (by omega)]; exact ⟨rfl, rfl, Nat.le_refl _⟩⟩
theorem grow_heap {w' : World} {L : Loc} {k : IntKind} {os : List (List Int)} {l : List Int} {e : Elt} (h : HeapRep w L k os) (hkeep : ∀ q, HFoot L q → w'.heap[q]? = w.heap[q]?) (he : VRep w' e.loc [.ints k l]) (hw : Writable w' e.loc 1)
  (hnew : e.cap ≠ 0 → ¬ HFoot L e.loc.1) : HeapRep w' (L.grow e) k (os ++ [l]) := by
 have hn := h.n
 have h0 := h.len0
 refine ⟨h0, by rw [grow_n h0, hn]; simp, by simp, by rw [grow_old h0 e (by have := h.pos; omega)]; exact h.zero, fun j x hj => ?_, fun i j hi hj hij hci hcj => ?_⟩
 ·by_cases hjn : j = L.n
  ·subst hjn
   rw [grow_new h0]
   rw [List.getElem?_append_right (by omega), hn, Nat.sub_self] at hj
   simp at hj; subst hj
   exact ⟨he, hw⟩
  ·rw [grow_old h0 e hjn]
   have hlt : j < os.length := by
    have := (List.getElem?_eq_some_iff.1 hj).1
    simp at this; omega
   rw [List.getElem?_append_left hlt] at hj
   obtain ⟨g1, g2⟩ := h.obj j x hj
   obtain ⟨f1, f2, f3⟩ := Elt.loc_facts (L.el 0 j)
   have same : (L.el 0 j).cap ≠ 0 → w'.heap[(L.el 0 j).loc.1]? = w.heap[(L.el 0 j).loc.1]? := fun hc => hkeep _ ⟨j, by omega, hc, rfl⟩
   refine ⟨g1.keeps fun y hy => ?_, fun hc => ?_⟩
   ·rcases hy with ⟨y1, rfl⟩ | hy
    ·exact same (by have := g1.cap; rw [f2, f3] at this; rw [f2] at y1; omega)
    ·exact absurd hy not_inner_ints
   ·obtain ⟨y1, c', T', fz', y2, y3⟩ := g2 hc
    exact ⟨y1, c', T', fz', by rw [same (by rw [← f3]; exact hc)]; exact y2, y3⟩
 ·simp only [List.length_append, List.length_cons, List.length_nil] at hi hj
  by_cases hin : i = L.n
  ·subst hin
   rw [grow_new h0] at hci ⊢
   rw [grow_old h0 e (Ne.symm hij)] at hcj ⊢
   exact fun q => hnew hci ⟨j, by omega, hcj, q⟩
  ·rw [grow_old h0 e hin] at hci ⊢
   by_cases hjn : j = L.n
   ·subst hjn
    rw [grow_new h0] at hcj ⊢
    exact fun q => hnew hcj ⟨i, by omega, hci, q.symm⟩
   ·rw [grow_old h0 e hjn] at hcj ⊢
    exact h.apart i j (by omega) (by omega) hij hci hcj
structure Moved (ρ ρ' : Rho) (n : Nat) (k : IntKind) (j len : Nat) : Prop where
 ext : ∀ m, HExt (ρ m) (ρ' m)
 hlen : (ρ n).len = len
 hcap : len ≤ (ρ n).cap
 hadr : (ρ n).cap ≠ 0 → ∃ a, (ρ n).a = some a
 hel : (ρ' (hname k)).el 0 j = ⟨(ρ n).a, (ρ n).len, (ρ n).cap⟩
 hj : j < (ρ' (hname k)).n
theorem add0 (o : Option Addr) : o.map (·.add 0) = o := by
 cases o with
 | none => rfl
 | some a => rfl
theorem CRep.thaw {ρ' : Rho} {n j len : Nat} {k : IntKind} (h : Moved ρ ρ' n k j len) {x : AC} {v : Value} (hx : CRep ρ x v) : CRep ρ' (x.thaw n k j len) v := by
 have base : CRep ρ' x v := hx.agree fun m _ => h.ext m
 have any : CRep ρ' .any v := hx.one
 cases x with
 | vec m =>
  simp only [AC.thaw]
  split
  ·rename_i hm
   have := beq_nat hm
   subst this
   refine ⟨(ρ m).a, (ρ m).cap, by rw [← h.hlen]; exact hx, h.hcap, by rw [h.hel]; show 0 + len ≤ (ρ m).len; rw [h.hlen]; omega, h.hj, by rw [h.hel]; exact Or.inr (add0 _).symm, by rw [h.hel]; show 0 + (ρ m).cap = (ρ m).cap; omega, by rw [h.hel]; exact h.hadr⟩
  ·exact base
 | vsl m z i l =>
  simp only [AC.thaw]
  split
  ·rename_i hm
   have := beq_nat hm
   subst this
   split
   ·obtain ⟨A, cap, e1, e2, e3, e4, e5, e6⟩ := hx
    refine ⟨A, cap, e1, e2, by rw [h.hel]; exact e3, h.hj, ?_, by rw [h.hel]; exact e6, by rw [h.hel]; exact h.hadr⟩
    rcases e4 with e4 | ⟨_, e4⟩
    ·exact Or.inl e4
    ·rw [h.hel]; rw [Nat.mul_one] at e4; exact Or.inr e4
   ·exact any
  ·exact base
 | _ =>
  first
  | exact base
  | (simp only [AC.thaw]; split <;> first | exact any | exact base)
theorem FRep.thaw {ρ' : Rho} {n j len : Nat} {k : IntKind} (h : Moved ρ ρ' n k j len) {l : List AC} {c : List Value} (hx : FRep ρ l c) : FRep ρ' (l.map (AC.thaw n k j len)) c :=
 ⟨by simpa using hx.1, fun i a v ha hv => by
  simp only [List.getElem?_map, Option.map_eq_some_iff] at ha
  obtain ⟨b, hb, rfl⟩ := ha
  exact (hx.2 i b v hb hv).thaw h⟩
theorem seg_thaw (n j len : Nat) (k : IntKind) : ∀ (s : List Seg), flat (s.map (Seg.thaw n k j len)) = (flat s).map (AC.thaw n k j len)
 | [] => rfl
 | x :: r => by
  simp only [List.map_cons, flat, List.map_append, seg_thaw n j len k r]
  congr 1
  cases x <;> simp [Seg.thaw, Seg.flat, AC.thaw]
theorem seg_thaw_ok {n j len : Nat} {k : IntKind} : ∀ {s : List Seg}, segsOk s → segsOk (s.map (Seg.thaw n k j len))
 | [], _ => trivial
 | x :: r, h => ⟨by cases x <;> exact h.1, seg_thaw_ok h.2⟩
theorem SRep.thaw {ρ' : Rho} {n j len : Nat} {k : IntKind} (h : Moved ρ ρ' n k j len) {x : AV} {v : Value} (hx : SRep ρ x v) : SRep ρ' (x.thaw n k j len) v := by
 cases x with
 | one a => exact CRep.thaw h hx
 | agg s =>
  obtain ⟨ho, cs, e, hf⟩ := hx
  exact ⟨seg_thaw_ok ho, cs, e, by rw [seg_thaw]; exact hf.thaw h⟩
 | tup vs =>
  obtain ⟨us, e, hl, hall⟩ := hx
  refine ⟨us, e, by simpa using hl, fun i t u ht hu => ?_⟩
  simp only [List.getElem?_map, Option.map_eq_some_iff] at ht
  obtain ⟨t', ht', rfl⟩ := ht
  have := hall i t' u ht' hu
  cases t' with
  | c a => exact CRep.thaw h this
  | g s => obtain ⟨ho, cs, e, hf⟩ := this; exact ⟨seg_thaw_ok ho, cs, e, by rw [seg_thaw]; exact hf.thaw h⟩
 | undef => trivial
theorem fr_get_map (f : AV → AV) (hf : f .undef = .undef) : ∀ (fr : Fr) (t : Nat), Fr.get (fr.map f) t = f (Fr.get fr t)
 | [], _ => by simp [Fr.get, hf]
 | x :: r, 0 => rfl
 | x :: r, t + 1 => fr_get_map f hf r t
theorem FrRep.thaw {ρ' : Rho} {n j len : Nat} {k : IntKind} (h : Moved ρ ρ' n k j len) {tmps : Array Value} (hx : FrRep ρ fr tmps) : FrRep ρ' (fr.map (AV.thaw n k j len)) tmps :=
 ⟨by simpa using hx.1, fun t v hv => by rw [fr_get_map _ rfl]; exact (hx.2 t v hv).thaw h⟩
theorem BlkRep.thaw {ρ' : Rho} {n j len m : Nat} {k : IntKind} (h : Moved ρ ρ' n k j len) (hm : ρ' m = ρ m) {b : Blk} (hx : BlkRep ρ w m b) : BlkRep ρ' w m (b.thaw n k j len) := by
 cases b with
 | own T s =>
  obtain ⟨ho, hz, c, fz, hh, hf, hfz⟩ := hx
  exact ⟨seg_thaw_ok ho, by rw [hm]; exact hz, c, fz, by rw [hm]; exact hh, by rw [seg_thaw]; exact hf.thaw h, hfz⟩
 | view s =>
  refine ⟨seg_thaw_ok hx.1, fun i a ha => ?_⟩
  rw [seg_thaw] at ha
  simp only [List.getElem?_map, Option.map_eq_some_iff] at ha
  obtain ⟨b, hb, rfl⟩ := ha
  obtain ⟨v, hv, hc⟩ := hx.2 i b hb
  exact ⟨v, by simp only [at_, hm]; exact hv, hc.thaw h⟩
 | vec cs => exact hx.agree hm fun m _ => h.ext m
 | rview cs => exact hx.agree hm fun m _ => h.ext m
 | heap q os => exact hx.agree hm fun m _ => h.ext m
 | map kk ms => exact hx.agree hm fun m _ => h.ext m
theorem Foot.thaw {n j len m q : Nat} {k : IntKind} {b : Blk} : Foot ρ m (b.thaw n k j len) q ↔ Foot ρ m b q := by
 cases b with
 | view s =>
  simp only [Blk.thaw, Foot, seg_thaw]
  constructor
  ·rintro ⟨h1, h2⟩; exact ⟨fun e => h1 (by rw [e]; rfl), h2⟩
  ·rintro ⟨h1, h2⟩; exact ⟨fun e => h1 (by simpa using e), h2⟩
 | _ => exact Iff.rfl
theorem Out.thaw {n j len m q : Nat} {k : IntKind} {b : Blk} : Out ρ m (b.thaw n k j len) q ↔ Out ρ m b q := by cases b <;> exact Iff.rfl
theorem Inn.thaw {n j len m q : Nat} {k : IntKind} {b : Blk} : Inn ρ m (b.thaw n k j len) q ↔ Inn ρ m b q := by cases b <;> exact Iff.rfl
theorem find_map (f : Blk → Blk) : ∀ (σ : Mem) (n : Nat), Mem.find (σ.map fun p => (p.1, f p.2)) n = (Mem.find σ n).map f
 | [], _ => rfl
 | (m, x) :: r, n => by
  simp only [List.map_cons, Mem.find]
  split
  ·rfl
  ·exact find_map f r n
theorem thaw1_sound {k : IntKind} {n : Nat} (hR : Rep E ρ fr σ a w) : ∃ ρ', Rep E ρ' (thaw1 k n fr σ).1 (thaw1 k n fr σ).2 a w ∧ ∀ m, isHeap m = false → ρ' m = ρ m := by
 unfold thaw1
 split
 rotate_left
 ·exact ⟨ρ, hR, fun _ _ => rfl⟩
 rename_i k' l os hn ho hlt
 split
 rotate_left
 ·exact ⟨ρ, hR, fun _ _ => rfl⟩
 rename_i hk
 subst hk
 have hlt' : n < 200000 := Nat.lt_of_lt_of_le (Nat.lt_succ_self _) (Nat.le_of_ble_eq_true hlt)
 have hhp := isHeap_hname k'
 have hle := isHeap_le hhp
 have hne : n ≠ hname k' := by omega
 have hf := heap_find ho
 obtain ⟨hV, hW, _⟩ := hR.mem n _ hn
 obtain ⟨_, hH⟩ := hR.mem _ _ hf
 have hl : l.length = (ρ n).len := hV.ok (.ints k' l) (by simp)
 let e : Elt := ⟨(ρ n).a, (ρ n).len, (ρ n).cap⟩
 obtain ⟨f1, f2, f3⟩ := Elt.loc_facts e
 have hloc : (ρ n).cap ≠ 0 → e.loc.1 = (ρ n).1 ∧ e.loc.2 = (ρ n).2 := fun hc => by
  have := (hW hc).1
  simp only [e, Elt.loc, this, Loc.at]
  exact ⟨trivial, by simp⟩
 have hee : e.loc = ⟨0, 0, none, 0, 0, fun _ _ => ⟨none, 0, 0⟩⟩ ∨ True := Or.inr trivial
 have hVe : VRep w e.loc [.ints k' l] := by
  refine .ofInts (by rw [f2]; exact hl) (by rw [f2, f3]; exact hV.cap) (fun q => ?_) (fun i x hi => ?_)
  ·rw [f2] at q
   have hc : (ρ n).cap ≠ 0 := by have := hV.cap; have : (ρ n).len ≠ 0 := q; omega
   obtain ⟨g1, g2⟩ := hloc hc
   rw [f1]
   show (ρ n).a = _
   rw [(hW hc).1]
   simp only [Loc.at, g1, g2]
  ·have hi' : i < l.length := (List.getElem?_eq_some_iff.1 hi).1
   have hc : (ρ n).cap ≠ 0 := by have := hV.cap; omega
   obtain ⟨g1, g2⟩ := hloc hc
   have := hV.cells i (by omega) 0 (by show 0 < 1; omega)
   have e1 : cwidth [Col.ints k' l] = 1 := rfl
   rw [e1, Nat.mul_one, Nat.add_zero] at this
   simp only [Loc.at, g1, g2] at this ⊢
   rw [this]
   simp [rowVal, Col.kd, Kd.width, colVal, lget, List.getD, hi]
 have hWe : Writable w e.loc 1 := fun hc => by
  rw [f3] at hc
  obtain ⟨g1, g2⟩ := hloc hc
  obtain ⟨w1, c, T, fz, w2, w3, w4⟩ := hW hc
  refine ⟨by rw [f1]; show (ρ n).a = _; rw [w1]; simp only [Loc.at, g1, g2], c, T, fz, by rw [g1]; exact w2, ?_, w4⟩
  rw [g2, f3]; exact w3
 have hR1 : Rep E ρ fr (σ.erase n) a w := hR.erase n
 have hf1 : Mem.find (σ.erase n) (hname k') = some (.heap k' os) := by rw [find_erase, if_neg (Ne.symm hne)]; exact hf
 have hnot : ∀ m c, Mem.find (σ.erase n) m = some c → e.cap ≠ 0 → ¬ Foot ρ m c e.loc.1 := fun m c hm hc hF => by
  rw [find_erase] at hm
  split at hm
  ·cases hm
  ·rename_i hmn
   rw [(hloc hc).1] at hF
   exact hR.sep.1 n m _ c _ hn hm (Ne.symm hmn) ⟨hc, rfl⟩ hF
 have hnewf : e.cap ≠ 0 → ¬ HFoot (ρ (hname k')) e.loc.1 := fun hc hF => hnot _ _ hf1 hc hF
 have hgrow := heap_grow (L' := (ρ (hname k')).grow e) hR1 hhp hf1 (grow_ext hH.len0 e) (grow_heap (w' := w) hH (fun _ _ => rfl) hVe hWe hnewf) hR.keep (fun _ _ _ _ _ _ => rfl) (fun q hq => by
  obtain ⟨j, h1, h2, rfl⟩ := hq
  rw [grow_n hH.len0] at h1
  by_cases hj : j = (ρ (hname k')).n
  ·subst hj
   rw [grow_new hH.len0] at h2 ⊢
   exact Or.inr ⟨by rw [(hloc h2).1]; exact hR.own n _ _ hn ⟨h2, rfl⟩, fun m c hm _ => hnot m c hm h2⟩
  ·rw [grow_old hH.len0 e hj] at h2 ⊢
   exact Or.inl ⟨j, by omega, h2, rfl⟩)
 let ρ' := upd ρ (hname k') ((ρ (hname k')).grow e)
 have hρn : ∀ m, isHeap m = false → ρ' m = ρ m := fun m hm => upd_ne fun q => by subst q; rw [hhp] at hm; cases hm
 have hmv : Moved ρ ρ' n k' (llen os) (llen l) := by
  have hnl : (ρ (hname k')).n = llen os := hH.n
  refine ⟨fun m => ext_upd (grow_ext hH.len0 e) m, hl.symm, by rw [llen, hl]; exact hV.cap, fun hc => ⟨_, (hW hc).1⟩, ?_, ?_⟩
  ·show (upd ρ (hname k') _ (hname k')).el 0 _ = _
   rw [upd_eq, ← hnl, grow_new hH.len0]
  ·show _ < (upd ρ (hname k') _ (hname k')).n
   rw [upd_eq, grow_n hH.len0, hnl]; omega
 refine ⟨ρ', ?_, hρn⟩
 have fd : ∀ {m c}, Mem.find (Mem.put ((σ.erase n).map fun p => (p.1, p.2.thaw n k' (llen os) (llen l))) (hname k') (.heap k' (os ++ [l]))) m = some c → ∃ c0, Mem.find ((σ.erase n).put (hname k') (.heap k' (os ++ [l]))) m = some c0 ∧ c = c0.thaw n k' (llen os) (llen l) ∧ (m ≠ hname k' → Mem.find (σ.erase n) m = some c0) := by
  intro m c hm
  rw [find_put] at hm
  rw [find_put]
  split at hm
  ·rename_i e1
   rw [if_pos e1]
   rw [find_map, hf1] at hm
   simp only [Option.map_some, Option.some.injEq] at hm
   refine ⟨.heap k' (os ++ [l]), by rw [hf1]; rfl, by subst hm; rfl, fun q => absurd e1 q⟩
  ·rename_i e1
   rw [if_neg e1]
   rw [find_map] at hm
   simp only [Option.map_eq_some_iff] at hm
   obtain ⟨c0, h1, h2⟩ := hm
   exact ⟨c0, h1, h2.symm, fun _ => h1⟩
 refine ⟨hR.fr.thaw hmv, hR.df, fun m c hm => ?_, ⟨fun m q c d x hm hq hmq hO hF => ?_, fun m c x hm hO hI => ?_⟩, hgrow.fix, hgrow.ext, fun m c x hm hO => ?_, hgrow.keep⟩
 ·obtain ⟨c0, h1, rfl, h3⟩ := fd hm
  by_cases hmh : m = hname k'
  ·subst hmh
   have := hgrow.mem _ _ h1
   rw [find_put, if_pos rfl, hf1] at h1
   cases h1
   exact this
  ·have h4 := h3 hmh
   have h5 := erase_less n m c0 h4
   exact BlkRep.thaw hmv (upd_ne hmh) (hR.mem m c0 h5)
 ·obtain ⟨c0, h1, rfl, _⟩ := fd hm
  obtain ⟨d0, g1, rfl, _⟩ := fd hq
  exact hgrow.sep.1 m q c0 d0 x h1 g1 hmq (Out.thaw.1 hO) (Foot.thaw.1 hF)
 ·obtain ⟨c0, h1, rfl, _⟩ := fd hm
  exact hgrow.sep.2 m c0 x h1 (Out.thaw.1 hO) (Inn.thaw.1 hI)
 ·obtain ⟨c0, h1, rfl, _⟩ := fd hm
  exact hgrow.own m c0 x h1 (Out.thaw.1 hO)
theorem thawAll_sound {k : IntKind} : ∀ {l : List Nat} {ρ : Rho} {fr : Fr} {σ : Mem}, Rep E ρ fr σ a w → ∃ ρ', Rep E ρ' (thawAll k l fr σ).1 (thawAll k l fr σ).2 a w ∧ ∀ m, isHeap m = false → ρ' m = ρ m
 | [], ρ, fr, σ, h => ⟨ρ, h, fun _ _ => rfl⟩
 | n :: r, ρ, fr, σ, h => by
  obtain ⟨ρ1, h1, h2⟩ := thaw1_sound (k := k) (n := n) h
  obtain ⟨ρ2, h3, h4⟩ := thawAll_sound (k := k) (l := r) h1
  exact ⟨ρ2, h3, fun m hm => (h4 m hm).trans (h2 m hm)⟩
theorem thawOp_sound (P : Program) (o : Op) (h : Rep E ρ fr σ a w) : ∃ ρ', Rep E ρ' (thawOp P o fr σ).1 (thawOp P o fr σ).2 a w ∧ ∀ m, isHeap m = false → ρ' m = ρ m := by
 unfold thawOp
 split
 ·split
  ·split
   ·split
    ·split
     ·exact thawAll_sound h
     ·exact ⟨ρ, h, fun _ _ => rfl⟩
    ·exact ⟨ρ, h, fun _ _ => rfl⟩
   ·exact ⟨ρ, h, fun _ _ => rfl⟩
  ·exact ⟨ρ, h, fun _ _ => rfl⟩
 ·exact ⟨ρ, h, fun _ _ => rfl⟩
theorem thawOp_id (P : Program) {o : Op} (h : ∀ t l p, o ≠ .buildSlice t l p) (fr : Fr) (σ : Mem) : thawOp P o fr σ = (fr, σ) := by
 cases o <;> first | rfl | exact absurd rfl (h _ _ _)
end
section
variable {P : Program} {E : Env} {ρ : Rho} {fr : Fr} {σ : Mem} {a : Act} {w : World}
theorem append_new {tx ty ot e : TypeId} {ks : List Kd} {bytes : Nat} {cx cy : List Col} {Lx Ly : Loc} {vx vy : Value} (hu : P.underlying tx = some (.slice e)) (hk : elemKinds P e = some (ks, bytes)) (hx : Reads ρ σ w vx cx Lx) (hy : Gives P ρ σ w ty vy cy Ly)
  (h1 : kdsOf cx = ks) (h2 : kdsOf cy = ks) (hroom : Room (Lx.len + Ly.len) bytes) (hg : Lx.cap < Lx.len + Ly.len) :
  ∃ (G : Nat) (C : Array Value), (Builtin.append_ #[tx, ty] ot #[vx, vy]).run P w = .ok (.slice (some ⟨w.heap.size, 0, none⟩) (Lx.len + Ly.len) G) (w.drew.alloc (.cells C e)) ∧ Lx.len + Ly.len ≤ G ∧ C.size = G * width ks ∧ ∀ (j : Nat) v, (rowCells Lx cx ++ rowCells Ly cy)[j]? = some v → C[j]? = some v := by
 obtain ⟨i, z, hi, hz, hzero, hsize, hwid, hbytes, _⟩ := elemKinds_sound hk
 have wx : cwidth cx = width ks := by rw [cwidth, h1]
 have wy : cwidth cy = width ks := by rw [cwidth, h2]
 have hRx := hx.rep
 have hsrc := hy.src
 rw [wy, ← hsize] at hsrc
 have hval := hx.val
 have hfirst := hRx.drew.first (P := P)
 rw [wx, ← hsize] at hfirst
 have hb := hroom.le
 have h63 : ((Lx.len + Ly.len : Nat) : Int) ≤ 9223372036854775807 := by
  have : (5 * (Lx.len + Ly.len) + 4096) * 1 ≤ (5 * (Lx.len + Ly.len) + 4096) * bytes := Nat.mul_le_mul_left _ (by omega)
  omega
 have hrun := run_append_grow_src (P := P) w tx ty ot e i z hu hi hz Lx.a Lx.len Lx.cap (rowCells Lx cx) hfirst vy Ly.len (rowCells Ly cy) hsrc hg h63 (by rw [hbytes]; exact room_fits hroom hg)
 rw [← hval] at hrun
 generalize hG : grownCap w (Lx.len + Ly.len) Lx.cap e = G at hrun
 have hGle : Lx.len + Ly.len ≤ G := by
  rw [← hG]; unfold grownCap Question.cut; simp
 generalize hC : (rowCells Lx cx ++ rowCells Ly cy).toArray ++ Builtin.zeroCells z.cells (G - (Lx.len + Ly.len)) = C at hrun
 have zsz : z.cells.size = width ks := by
  have := zero_len hzero
  simpa using this
 have hCs : C.size = G * width ks := by
  rw [← hC, Array.size_append, List.size_toArray, List.length_append, rowCells_len, rowCells_len, wx, wy, size_zeroCells, zsz, ← Nat.add_mul, ← Nat.add_mul]
  congr 1; omega
 refine ⟨G, C, hrun, hGle, hCs, fun j v hj => ?_⟩
 have hlt := (List.getElem?_eq_some_iff.1 hj).1
 rw [← hC, Array.getElem?_append, if_pos (by simpa using hlt), List.getElem?_toArray]
 exact hj
def Loc.longer (L : Loc) (j len : Nat) : Loc := { L with el := fun c i => if c = 0 ∧ i = j then ⟨(L.el 0 j).a, len, (L.el 0 j).cap⟩ else L.el c i }
theorem longer_n (L : Loc) (j len : Nat) : (L.longer j len).n = L.n := by
 show (if (1 : Nat) = 0 ∧ 0 = j then (⟨(L.el 0 j).a, len, (L.el 0 j).cap⟩ : Elt) else L.el 1 0).len = (L.el 1 0).len
 rw [if_neg (by omega)]
theorem longer_at (L : Loc) (j len : Nat) : (L.longer j len).el 0 j = ⟨(L.el 0 j).a, len, (L.el 0 j).cap⟩ := by
 show (if (0 : Nat) = 0 ∧ j = j then _ else _) = _
 rw [if_pos (by omega)]
theorem longer_ne (L : Loc) {i j : Nat} (len : Nat) (h : i ≠ j) : (L.longer j len).el 0 i = L.el 0 i := by
 show (if (0 : Nat) = 0 ∧ i = j then _ else _) = _
 rw [if_neg (by omega)]
theorem longer_ext {L : Loc} {j len : Nat} (h : L.len = 0) (hl : (L.el 0 j).len ≤ len) : HExt L (L.longer j len) :=
 ⟨rfl, rfl, rfl, rfl, rfl, fun c i hi => by omega, by rw [longer_n]; exact Nat.le_refl _, fun i hi => by
  by_cases e : i = j
  ·subst e; rw [longer_at]; exact ⟨rfl, rfl, hl⟩
  ·rw [longer_ne L len e]; exact ⟨rfl, rfl, Nat.le_refl _⟩⟩
theorem lput_nil (l : List Int) (i : Nat) : lput l i [] = l := by simp [lput]
theorem llset_same {os : List (List Int)} {j : Nat} (hj : j < os.length) : llset os j (llget os j) = os := by
 apply List.ext_getElem?
 intro i
 rw [llset, List.getElem?_set]
 by_cases h : j = i
 ·subst h; rw [if_pos rfl, if_pos hj, llget_some hj]
 ·rw [if_neg h]
theorem lput_get2 (l v : List Int) (i j : Nat) (hi : i ≤ l.length) : (lput l i v)[j]? = if i ≤ j ∧ j < i + v.length then v[j - i]? else l[j]? := by
 simp only [lput]
 by_cases h1 : j < i
 ·rw [if_neg (by omega), List.append_assoc, List.getElem?_append_left (by simp; omega), List.getElem?_take, if_pos h1]
 ·by_cases h2 : j < i + v.length
  ·rw [if_pos (by omega), List.append_assoc, List.getElem?_append_right (by simp; omega), List.getElem?_append_left (by simp; omega)]
   congr 1; simp; omega
  ·rw [if_neg (by omega), List.getElem?_append_right (by simp; omega), List.getElem?_drop]
   congr 1; simp; omega
theorem lput_len2 (l v : List Int) (i : Nat) (hi : i ≤ l.length) : (lput l i v).length = max l.length (i + v.length) := by simp [lput]; omega
theorem longer_heap {w' : World} {L : Loc} {k : IntKind} {os : List (List Int)} {j p : Nat} {v : List Int} (h : HeapRep w L k os) (hj : j < os.length) (hp : p ≤ (llget os j).length) (hfit : p + v.length ≤ (L.el 0 j).cap) (hc : (L.el 0 j).cap ≠ 0) {c cur' : List Value} {T : TypeId} {fz : Nat × Nat}
  (h1 : w.heap[(L.el 0 j).loc.1]? = some (.cells c.toArray T fz)) (h2 : w'.heap[(L.el 0 j).loc.1]? = some (.cells cur'.toArray T fz)) (h3 : ∀ q, q ≠ (L.el 0 j).loc.1 → w'.heap[q]? = w.heap[q]?) (h4 : cur'.length = c.length)
  (h5 : ∀ (t : Nat), cur'[t]? = if (L.el 0 j).loc.2 + p ≤ t ∧ t < (L.el 0 j).loc.2 + p + v.length then (v.map (Value.int k))[t - ((L.el 0 j).loc.2 + p)]? else c[t]?) :
  HeapRep w' (L.longer j (max (L.el 0 j).len (p + v.length))) k (llset os j (lput (llget os j) p v)) := by
 obtain ⟨f1, f2, f3⟩ := Elt.loc_facts (L.el 0 j)
 obtain ⟨g1, g2⟩ := h.obj j _ (llget_some hj)
 have gl : (llget os j).length = (L.el 0 j).len := by rw [← f2]; exact g1.ok (.ints k _) (by simp)
 refine ⟨h.len0, by rw [longer_n, h.n]; simp [llset], by rw [llset, List.length_set]; exact h.pos, ?_, fun q l hl => ?_, fun x y hx hy hxy hcx hcy => ?_⟩
 ·by_cases e : 0 = j
  ·subst e; exact absurd h.zero hc
  ·rw [longer_ne L _ e]; exact h.zero
 ·have hq : q < os.length := by have := (List.getElem?_eq_some_iff.1 hl).1; simpa [llset] using this
  by_cases hqj : q = j
  ·subst hqj
   have el : l = lput (llget os q) p v := by
    rw [llset, List.getElem?_set, if_pos rfl, if_pos hq] at hl; exact (Option.some.inj hl).symm
   subst el
   rw [longer_at]
   obtain ⟨y1, c', T', fz', y2, y3, y4⟩ := g2 (by rw [f3]; exact hc)
   rw [h1] at y2
   simp only [Option.some.injEq, Obj.cells.injEq] at y2
   obtain ⟨rfl, rfl, rfl⟩ := y2
   have hA : (L.el 0 q).a = some ((L.el 0 q).loc.at 0) := by rw [← f1]; exact y1
   generalize hle : max (L.el 0 q).len (p + v.length) = len'
   obtain ⟨e1, e2, e3⟩ := Elt.loc_facts ⟨(L.el 0 q).a, len', (L.el 0 q).cap⟩
   have eb : (Elt.loc ⟨(L.el 0 q).a, len', (L.el 0 q).cap⟩).1 = (L.el 0 q).loc.1 ∧ (Elt.loc ⟨(L.el 0 q).a, len', (L.el 0 q).cap⟩).2 = (L.el 0 q).loc.2 := by
    unfold Elt.loc; simp only [hA]; exact ⟨trivial, trivial⟩
   have ha : ∀ t, (Elt.loc ⟨(L.el 0 q).a, len', (L.el 0 q).cap⟩).at t = (L.el 0 q).loc.at t := fun t => by simp only [Loc.at, eb.1, eb.2]
   have lcap : (L.el 0 q).len ≤ (L.el 0 q).cap := by have := g1.cap; rw [f2, f3] at this; exact this
   refine ⟨.ofInts (by rw [e2, lput_len2 _ _ _ hp, gl]; exact hle) (by rw [e2, e3]; show len' ≤ (L.el 0 q).cap; omega) (fun _ => by rw [e1, ha]; exact hA) (fun t x ht => ?_), fun _ => ⟨by rw [e1, ha]; exact hA, cur'.toArray, T, fz, by rw [eb.1]; exact h2, ?_, by simpa [h4] using y4⟩⟩
   ·rw [ha]
    simp only [World.cell?, Loc.at, h2, Option.isSome_none, Bool.false_eq_true, if_false]
    rw [List.getElem?_toArray, h5]
    rw [lput_get2 _ _ _ _ hp] at ht
    by_cases hin : p ≤ t ∧ t < p + v.length
    ·rw [if_pos hin] at ht
     rw [if_pos (by omega), List.getElem?_map, show (L.el 0 q).loc.2 + t - ((L.el 0 q).loc.2 + p) = t - p by omega, ht]; rfl
    ·rw [if_neg hin] at ht
     rw [if_neg (by omega)]
     have htl := (List.getElem?_eq_some_iff.1 ht).1
     have old := g1.cells t (by rw [f2, ← gl]; exact htl) 0 (by show 0 < 1; omega)
     have ec : cwidth [Col.ints k (llget os q)] = 1 := rfl
     rw [ec, Nat.mul_one, Nat.add_zero] at old
     simp only [World.cell?, Loc.at, h1, Option.isSome_none, Bool.false_eq_true, if_false] at old
     rw [List.getElem?_toArray] at old
     rw [old]
     simp [rowVal, Col.kd, Kd.width, colVal, lget, List.getD, ht]
   ·rw [eb.2, e3]
    simpa [h4, f3] using y3
  ·have hl' : os[q]? = some l := by rw [llset, List.getElem?_set, if_neg (fun e => hqj e.symm)] at hl; exact hl
   rw [longer_ne L _ hqj]
   obtain ⟨o1, o2⟩ := h.obj q l hl'
   obtain ⟨p1, p2, p3⟩ := Elt.loc_facts (L.el 0 q)
   have diff : (L.el 0 q).cap ≠ 0 → w'.heap[(L.el 0 q).loc.1]? = w.heap[(L.el 0 q).loc.1]? := fun hcq =>
    h3 _ (h.apart q j hq hj hqj hcq hc)
   refine ⟨o1.keeps fun y hy => ?_, fun hcq => ?_⟩
   ·rcases hy with ⟨y1, rfl⟩ | hy
    ·exact diff (by have := o1.cap; rw [p2, p3] at this; rw [p2] at y1; omega)
    ·exact absurd hy not_inner_ints
   ·obtain ⟨y1, c', T', fz', y2, y3⟩ := o2 hcq
    exact ⟨y1, c', T', fz', by rw [diff (by rw [← p3]; exact hcq)]; exact y2, y3⟩
 ·have hx' : x < os.length := by simpa [llset] using hx
  have hy' : y < os.length := by simpa [llset] using hy
  have lb : ∀ i, ((L.longer j (max (L.el 0 j).len (p + v.length))).el 0 i).cap = (L.el 0 i).cap ∧ (((L.el 0 i).cap ≠ 0) → i < os.length → ((L.longer j (max (L.el 0 j).len (p + v.length))).el 0 i).loc.1 = (L.el 0 i).loc.1) := fun i => by
   by_cases e : i = j
   ·subst e
    rw [longer_at]
    refine ⟨rfl, fun hci _ => ?_⟩
    have hA : (L.el 0 i).a = some ((L.el 0 i).loc.at 0) := by rw [← f1]; exact (g2 (by rw [f3]; exact hc)).1
    unfold Elt.loc; simp only [hA]
   ·rw [longer_ne L _ e]; exact ⟨rfl, fun _ _ => rfl⟩
  rw [(lb x).1] at hcx
  rw [(lb y).1] at hcy
  rw [(lb x).2 hcx hx', (lb y).2 hcy hy']
  exact h.apart x y hx' hy' hxy hcx hcy
theorem happend_sound {tx ty ot e : TypeId} {k : IntKind} {bytes : Nat} {os : List (List Int)} {src : List Int} {Ly : Loc} {j off len : Nat} {vx vy : Value} (hR : Rep E ρ fr σ a w) (hu : P.underlying tx = some (.slice e)) (hk : elemKinds P e = some ([.ints k], bytes)) (ho : Mem.heap σ k = some os)
  (hx : CRep ρ (.hs k j off len) vx) (hy : Gives P ρ σ w ty vy [.ints k src] Ly) (hroom : Room (len + src.length) bytes) :
  ∃ v w' os' j' off' ρ', (Builtin.append_ #[tx, ty] ot #[vx, vy]).run P w = .ok v w' ∧ AppR os j off len src os' j' off' ∧ w.heap.size ≤ w'.heap.size ∧ Rep E ρ' fr (σ.put (hname k) (.heap k os')) a w' ∧ (∀ m, isHeap m = false → ρ' m = ρ m) ∧ CRep ρ' (.hs k j' off' (len + src.length)) v := by
 obtain ⟨i, z, hi, hz, hzero, hsize, hwid, hbytes, _⟩ := elemKinds_sound hk
 have w1 : width [Kd.ints k] = 1 := rfl
 have hs1 : i.size = 1 := hsize
 obtain ⟨Lx, hr, hle⟩ := reads_hs hR.mem hR.sep ho hx
 obtain ⟨A, cap, rfl, x2, x3, hj, x4, x5, x6⟩ := hx
 have hval := hr.val
 simp only [Value.slice.injEq] at hval
 obtain ⟨va, vl, vc⟩ := hval
 obtain ⟨g1, g2, g3, g4⟩ := heap_obj hR.mem ho hj
 have hf := heap_find ho
 have hhp := isHeap_hname k
 obtain ⟨_, hH⟩ := hR.mem _ _ hf
 have ly : src.length = Ly.len := hy.ok (.ints k src) (by simp)
 obtain ⟨f1, f2, f3⟩ := Elt.loc_facts ((ρ (hname k)).el 0 j)
 have hne : ∀ L' m, isHeap m = false → upd ρ (hname k) L' m = ρ m := fun L' m hm => upd_ne fun q => by subst q; rw [hhp] at hm; cases hm
 by_cases hfit : len + src.length ≤ cap
 ·have hsrc := hy.src
  have e1 : cwidth [Col.ints k src] = 1 := rfl
  rw [e1] at hsrc
  have hcells := hsrc.cells
  have hlen := hsrc.len
  rw [ints_cells ly] at hcells
  by_cases hcap : cap = 0
  ·have l0 : len = 0 := by omega
   have s0 : src = [] := List.eq_nil_of_length_eq_zero (by omega)
   subst s0
   have m0 : Ly.len = 0 := by rw [← ly]; rfl
   refine ⟨.slice A 0 0, w, _, j, off, ρ, ?_, .here (fun q => absurd rfl q), Nat.le_refl _, ?_, fun _ _ => rfl, ?_⟩
   ·rw [m0] at hlen hcells
    rw [l0, hcap]
    rcases hsrc.kind with ⟨e', hkd⟩ | hkd <;> cases A <;> simp [Builtin.append_, run_underlying hu, run_underlying hkd, sizeOf, typeInfo, hi, hlen, hcells, hs1, storeCells]
   ·have : llset os j (lput (llget os j) (off + len) []) = os := by rw [lput_nil, llset_same g4]
    rw [this]
    exact hR.find_eq fun m => by
     rw [find_put]; split
     ·rename_i em; rw [em, hf]; rfl
     ·rfl
   ·subst l0 hcap
    exact ⟨A, 0, rfl, Nat.le_refl _, x3, hj, Or.inl rfl, x5, x6⟩
  ·have hcj : ((ρ (hname k)).el 0 j).cap ≠ 0 := by omega
   obtain ⟨a0, ha0⟩ := x6 hcj
   obtain ⟨b1, c, T, fz, b2, b3, b4⟩ := g2 (by rw [f3]; exact hcj)
   have hA : A = some (((ρ (hname k)).el 0 j).loc.at off) := by
    rcases x4 with x4 | x4
    ·exact absurd x4 hcap
    ·rw [f1] at b1; rw [x4, b1, Option.map_some, Loc.at_add, Nat.zero_add]
   have hj0 : j ≠ 0 := fun q => by subst q; exact hcj hH.zero
   have hcz : ((ρ (hname k)).el 0 j).loc.2 + ((ρ (hname k)).el 0 j).cap ≤ c.size := by rw [← f3]; simpa using b3
   obtain ⟨w', cur', e1', e2, e3, e4, e5, e6, e7, e8, e9⟩ := store_cells P (g := ((ρ (hname k)).el 0 j).loc.1) (o := ((ρ (hname k)).el 0 j).loc.2 + (off + len)) (src.map (Value.int k)) 0 c.toList w b2 (by simpa using b4) (by simp; omega) (fun u hu => by obtain ⟨_, _, rfl⟩ := List.mem_map.1 hu; rfl)
   have hrun : (Builtin.append_ #[tx, ty] ot #[.slice A len cap, vy]).run P w = .ok (.slice A (len + src.length) cap) w' := by
    have hadd : (((ρ (hname k)).el 0 j).loc.at off).add (len * 1) = ⟨((ρ (hname k)).el 0 j).loc.1, ((ρ (hname k)).el 0 j).loc.2 + (off + len), none⟩ := by rw [Loc.at_add, Nat.mul_one]; rfl
    have hfit' : len + Ly.len ≤ cap := by rw [← ly]; exact hfit
    rw [hA]
    rcases hsrc.kind with ⟨e', hkd⟩ | hkd <;> simp only [Nat.mul_one] at hadd <;> simp [Builtin.append_, run_underlying hu, run_underlying hkd, sizeOf, typeInfo, hi, hlen, hfit', hs1, hcells, hadd, e1', ly]
   have hHn := longer_heap (w' := w') (p := off + len) (v := src) hH g4 (by omega) (by omega) hcj (c := c.toList) (by simpa using b2) e2 e3 e8 (fun t => by have := e9 t; simpa using this)
   have hgrow := heap_grow (L' := (ρ (hname k)).longer j (max ((ρ (hname k)).el 0 j).len (off + len + src.length))) (w' := w') hR hhp hf (longer_ext hH.len0 (Nat.le_max_left _ _)) hHn
    ⟨e5.trans hR.keep.os, e6.trans hR.keep.tape, e7.trans hR.keep.output, by rw [e4]; exact hR.keep.size, fun q hq hx' => by
     rw [← hR.keep.block q hq hx']
     refine e3 q fun qe => ?_
     subst qe
     rcases hR.own _ _ _ hf ⟨j, hj, hcj, rfl⟩ with q1 | q1
     ·omega
     ·exact hx' q1⟩
    (fun m d q hm hmh hF => e3 q fun qe => by
     subst qe
     exact hR.sep.1 _ m _ d _ hf hm (Ne.symm hmh) ⟨j, hj, hcj, rfl⟩ hF)
    (fun q hq => by
     obtain ⟨y, h1, h2, rfl⟩ := hq
     rw [longer_n] at h1
     left
     by_cases hyj : y = j
     ·subst hyj
      rw [longer_at] at h2 ⊢
      refine ⟨y, h1, h2, ?_⟩
      unfold Elt.loc; simp only [ha0]
     ·rw [longer_ne _ _ hyj] at h2 ⊢
      exact ⟨y, h1, h2, rfl⟩)
   refine ⟨_, w', _, j, off, _, hrun, .here (fun _ => hj0), by omega, hgrow, hne _, ?_⟩
   refine ⟨A, cap, rfl, hfit, ?_, ?_, ?_, ?_, ?_⟩
   ·rw [upd_eq, longer_at]; show off + (len + src.length) ≤ max _ _; omega
   ·rw [upd_eq, longer_n]; exact hj
   ·rw [upd_eq, longer_at]; exact x4
   ·rw [upd_eq, longer_at]; exact x5
   ·rw [upd_eq, longer_at]; exact x6
 ·obtain ⟨G, C, hrun, hGle, hCs, hcell⟩ := append_new (ot := ot) hu hk hr hy rfl rfl (by rw [← vl, ← ly]; exact hroom) (by omega)
  rw [← vl, ← ly] at hrun hGle
  have e1 : ∀ l : List Int, cwidth [Col.ints k l] = 1 := fun _ => rfl
  have hll : (lsub (llget os j) off len).length = Lx.len := hr.rep.ok (.ints k _) (by simp)
  rw [ints_cells hll, ints_cells ly] at hcell
  rw [w1, Nat.mul_one] at hCs
  let el : Elt := ⟨some ⟨w.heap.size, 0, none⟩, len + src.length, G⟩
  have eloc : el.loc = ⟨w.heap.size, 0, some ⟨w.heap.size, 0, none⟩, len + src.length, G, fun _ _ => ⟨none, 0, 0⟩⟩ := rfl
  have new : (w.drew.alloc (.cells C e)).heap[w.heap.size]? = some (.cells C e) := by
   show (w.heap.push _)[w.heap.size]? = _
   simp
  have old : ∀ q, q < w.heap.size → (w.drew.alloc (.cells C e)).heap[q]? = w.heap[q]? := fun q hq => with_old (o := .cells C e) hq
  have inr : ∀ {m c q}, Mem.find σ m = some c → Foot ρ m c q → q < w.heap.size := fun hm hF => in_range (hR.mem _ _ hm) hF
  have hV : VRep (w.drew.alloc (.cells C e)) el.loc [.ints k (lsub (llget os j) off len ++ src)] := by
   rw [eloc]
   refine .ofInts (by simp only [List.length_append, hll]; omega) hGle (fun _ => rfl) (fun t x ht => ?_)
   simp only [World.cell?, Loc.at, new, Option.isSome_none, Bool.false_eq_true, if_false, Nat.zero_add]
   refine hcell t _ ?_
   rw [← List.map_append, List.getElem?_map, ht]; rfl
  have hW : Writable (w.drew.alloc (.cells C e)) el.loc 1 := by
   rw [eloc]
   exact fun _ => ⟨rfl, C, e, (0, 0), new, by simp; omega, fun _ _ => by simp⟩
  have hHn := grow_heap (w' := w.drew.alloc (.cells C e)) (e := el) hH (fun q hq => old q (inr hf hq)) hV hW (fun _ hq => by have := inr hf hq; rw [eloc] at this; exact absurd this (Nat.lt_irrefl _))
  have hsz : (w.drew.alloc (.cells C e)).heap.size = w.heap.size + 1 := by show (w.heap.push _).size = _; simp
  have hgrow := heap_grow (L' := (ρ (hname k)).grow el) (w' := w.drew.alloc (.cells C e)) hR hhp hf (grow_ext hH.len0 el) hHn
   ⟨hR.keep.os, hR.keep.tape, hR.keep.output, by rw [hsz]; have := hR.keep.size; omega, fun q hq hx' => by rw [old q (by have := hR.keep.size; omega)]; exact hR.keep.block q hq hx'⟩
   (fun m d q hm _ hF => old q (inr hm hF))
   (fun q hq => by
    obtain ⟨y, h1, h2, rfl⟩ := hq
    rw [grow_n hH.len0] at h1
    by_cases hyj : y = (ρ (hname k)).n
    ·subst hyj
     rw [grow_new hH.len0] at h2 ⊢
     refine Or.inr ⟨Or.inl hR.keep.size, fun m d hm _ hF => ?_⟩
     have := inr hm hF
     rw [eloc] at this
     exact absurd this (Nat.lt_irrefl _)
    ·rw [grow_old hH.len0 el hyj] at h2 ⊢
     exact Or.inl ⟨y, by omega, h2, rfl⟩)
  refine ⟨_, _, _, os.length, 0, _, hrun, .new, by rw [hsz]; omega, hgrow, hne _, ?_⟩
  have hnn := hH.n
  refine ⟨_, G, rfl, hGle, ?_, ?_, ?_, ?_, ?_⟩
  ·rw [upd_eq, ← hnn, grow_new hH.len0]; show 0 + (len + src.length) ≤ len + src.length; omega
  ·rw [upd_eq, grow_n hH.len0]; omega
  ·rw [upd_eq, ← hnn, grow_new hH.len0]; exact Or.inr rfl
  ·rw [upd_eq, ← hnn, grow_new hH.len0]; show 0 + G = G; omega
  ·rw [upd_eq, ← hnn, grow_new hH.len0]; exact fun _ => ⟨_, rfl⟩
end
end Go.Sx
