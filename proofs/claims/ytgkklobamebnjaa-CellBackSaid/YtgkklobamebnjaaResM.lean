/- Results of functions that give plain values and new lists; words of conditions. -/
import Derived.Test.YtgkklobamebnjaaByteM
namespace Go.Sx
open Go
set_option linter.unusedSimpArgs false
set_option linter.unusedVariables false

/-- plain parts, up to how a truth value is written -/
inductive PlainT : List TV → List TV → Prop
  | nil : PlainT [] []
  | int {k : IntKind} {a b : Int} {r s : List TV} : a = b → PlainT r s → PlainT (.c (.int k a) :: r) (.c (.int k b) :: s)
  | lit {a b : Bool} {r s : List TV} : a = b → PlainT r s → PlainT (.c (.lit a) :: r) (.c (.bool b) :: s)
  | bool {a b : Bool} {r s : List TV} : a = b → PlainT r s → PlainT (.c (.bool a) :: r) (.c (.bool b) :: s)
  | arr {k : IntKind} {n : Nat} {a b : List Int} {r s : List TV} : a = b → PlainT r s → PlainT (.g [.ints k n a] :: r) (.g [.ints k n b] :: s)

theorem PlainT.res {its : List Item} {d : Nat} : ∀ {r s : List TV}, PlainT r s → ResT its d r s := by
  intro r s h
  induction h with
  | nil => trivial
  | int e _ ih => subst e; exact ⟨Or.inl ⟨fun _ => rfl, fun _ => rfl, fun _ _ h => h⟩, ih⟩
  | lit e _ ih => subst e; exact ⟨Or.inl ⟨fun _ => rfl, fun _ => rfl, fun _ _ h => h⟩, ih⟩
  | bool e _ ih => subst e; exact ⟨Or.inl ⟨fun _ => rfl, fun _ => rfl, fun _ _ h => h⟩, ih⟩
  | arr e _ ih => subst e; exact ⟨⟨⟨rfl, rfl, rfl⟩, trivial⟩, ih⟩

section
variable {d : Nat} {σ σ' : Mem} {K : AV → Mem → Prop}

theorem res_plain {av av' : AV} (h : ResV [] d av av') (hK : K av' σ) : Res d 0 σ K av σ' :=
  ⟨[], av', Nat.le_refl _, fun it h => by simp at h, pairwise_nil, h, hK⟩
theorem res_int {k : IntKind} {a b : Int} (e : a = b) (hK : K (.one (.int k b)) σ) : Res d 0 σ K (.one (.int k a)) σ' := by
  subst e; exact res_plain (av' := .one (.int k a)) (Or.inl ⟨fun _ => rfl, fun _ => rfl, fun _ _ h => h⟩) hK
theorem res_bool {a b : Bool} (e : a = b) (hK : K (.one (.bool b)) σ) : Res d 0 σ K (.one (.bool a)) σ' := by
  subst e; exact res_plain (av' := .one (.bool a)) (Or.inl ⟨fun _ => rfl, fun _ => rfl, fun _ _ h => h⟩) hK
theorem res_lit {a b : Bool} (e : a = b) (hK : K (.one (.bool b)) σ) : Res d 0 σ K (.one (.lit a)) σ' := by
  subst e; exact res_plain (av' := .one (.bool a)) (Or.inl ⟨fun _ => rfl, fun _ => rfl, fun _ _ h => h⟩) hK
theorem res_arr {k : IntKind} {n : Nat} {a b : List Int} (e : a = b) (hK : K (.agg [.ints k n b]) σ) : Res d 0 σ K (.agg [.ints k n a]) σ' := by
  subst e; exact res_plain (av' := .agg [.ints k n a]) ⟨⟨rfl, rfl, rfl⟩, trivial⟩ hK
theorem res_vec {m : Nat} {k : IntKind} {l l' : List Int} (hf : Mem.find σ' m = some (.vec [.ints k l])) (e : l = l') (hK : K (.one (.vec d)) (Mem.ins d (.vec [.ints k l']) σ)) : Res d 1 σ K (.one (.vec m)) σ' := by
  subst e
  exact ⟨[.vec m [.ints k l]], .one (.vec d), Nat.le_refl _, fun it h => by simp at h; subst h; exact ⟨hf, rfl⟩, pairwise_one, Or.inr ⟨0, _, rfl, rfl, rfl⟩, hK⟩
theorem res_nil {k : IntKind} {l' : List Int} (e : l' = []) (hK : K (.one (.vec d)) (Mem.ins d (.vec [.ints k l']) σ)) : Res d 1 σ K (.one (.con (.slice none 0 0))) σ' := by
  subst e
  exact ⟨[.nil [.ints k]], .one (.vec d), Nat.le_refl _, fun it h => by simp at h; subst h; exact ⟨Nat.one_pos, rfl⟩, pairwise_one, Or.inr ⟨0, _, rfl, rfl, rfl⟩, hK⟩
theorem res_tvec {m : Nat} {k : IntKind} {l l' : List Int} {r s : List TV} (hf : Mem.find σ' m = some (.vec [.ints k l])) (hr : PlainT r s) (e : l = l') (hK : K (.tup (.c (.vec d) :: s)) (Mem.ins d (.vec [.ints k l']) σ)) : Res d 1 σ K (.tup (.c (.vec m) :: r)) σ' := by
  subst e
  exact ⟨[.vec m [.ints k l]], .tup (.c (.vec d) :: s), Nat.le_refl _, fun it h => by simp at h; subst h; exact ⟨hf, rfl⟩, pairwise_one, ⟨Or.inr ⟨0, _, rfl, rfl, rfl⟩, hr.res⟩, hK⟩
theorem res_tnil {k : IntKind} {l' : List Int} {r s : List TV} (hr : PlainT r s) (e : l' = []) (hK : K (.tup (.c (.vec d) :: s)) (Mem.ins d (.vec [.ints k l']) σ)) : Res d 1 σ K (.tup (.c (.con (.slice none 0 0)) :: r)) σ' := by
  subst e
  exact ⟨[.nil [.ints k]], .tup (.c (.vec d) :: s), Nat.le_refl _, fun it h => by simp at h; subst h; exact ⟨Nat.one_pos, rfl⟩, pairwise_one, ⟨Or.inr ⟨0, _, rfl, rfl, rfl⟩, hr.res⟩, hK⟩
end

/-! ### words -/
theorem room1 {n : Nat} (h : n ≤ 140737488421888) : Room n 1 := ⟨by omega⟩
theorem lsub_all {α : Type} (l : List α) : lsub l 0 l.length = l := by simp [lsub]
theorem lsub_drop {α : Type} (l : List α) (i : Nat) : lsub l i (l.length - i) = l.drop i := by simp [lsub, List.take_of_length_le]
theorem lsub_take {α : Type} (l : List α) (n : Nat) : lsub l 0 n = l.take n := by simp [lsub]
theorem lget_succ (l : List Int) (i : Nat) (h : i < l.length) : l.drop i = lget l i :: l.drop (i + 1) := by
  rw [List.drop_eq_getElem_cons h]; simp [lget, List.getD, h]
end Go.Sx
