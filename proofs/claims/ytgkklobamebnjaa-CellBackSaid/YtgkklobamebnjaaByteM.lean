/- Bytes: plain facts on lists of them. -/
import Derived.Test.YtgkklobamebnjaaSxN
import Derived.Test.YtgkklobamebnjaaSxR
namespace Go.Sx
open Go
set_option linter.unusedSimpArgs false

structure Bs (l : List Int) : Prop where
  all : ∀ x ∈ l, 0 ≤ x ∧ x < 256

theorem Bs.nil : Bs [] := ⟨fun x h => by cases h⟩
theorem Bs.cons {a : Int} {l : List Int} (h0 : 0 ≤ a) (h1 : a < 256) (h : Bs l) : Bs (a :: l) := ⟨fun x hx => by
  rcases List.mem_cons.1 hx with rfl | hx
  · exact ⟨h0, h1⟩
  · exact h.all x hx⟩
theorem Bs.app {a b : List Int} (h : Bs a) (g : Bs b) : Bs (a ++ b) := ⟨fun x hx => by
  rcases List.mem_append.1 hx with hx | hx
  · exact h.all x hx
  · exact g.all x hx⟩
theorem Bs.take {l : List Int} (h : Bs l) (n : Nat) : Bs (l.take n) := ⟨fun x hx => h.all x (List.mem_of_mem_take hx)⟩
theorem Bs.drop {l : List Int} (h : Bs l) (n : Nat) : Bs (l.drop n) := ⟨fun x hx => h.all x (List.mem_of_mem_drop hx)⟩
theorem Bs.zeros (n : Nat) : Bs (List.replicate n 0) := ⟨fun x hx => by rw [List.eq_of_mem_replicate hx]; decide⟩
theorem Bs.get {l : List Int} (h : Bs l) (i : Nat) : 0 ≤ l.getD i 0 ∧ l.getD i 0 < 256 := by
  rw [List.getD_eq_getElem?_getD]
  cases hq : l[i]? with
  | none => simp
  | some x => exact h.all x (List.mem_of_getElem? hq)
theorem Bs.set {l : List Int} (h : Bs l) (i : Nat) {v : Int} (h0 : 0 ≤ v) (h1 : v < 256) : Bs (l.set i v) := ⟨fun x hx => by
  rcases List.mem_or_eq_of_mem_set hx with hx | rfl
  · exact h.all x hx
  · exact ⟨h0, h1⟩⟩

/-- what a slice of bytes reads -/
def rdb (σ : Mem) (x : AV) (K : List Int → Prop) : Prop := rdx σ [.ints .u8] x (oneInts .u8 K)

theorem rdx_det {σ : Mem} {ks : List Kd} {x : AV} {K : List Col → Prop} (h : rdx σ ks x K) : ∃ cs, K cs ∧ rdx σ ks x (fun c => c = cs) := by
  unfold rdx at h
  split at h
  · split at h <;> try exact h.elim
    rename_i hq
    exact ⟨_, h, by simp [rdx, hq]⟩
  · split at h <;> try exact h.elim
    rename_i hq
    split at h <;> try exact h.elim
    rename_i hz
    exact ⟨_, h, by simp [rdx, hq, hz]⟩
  · split at h <;> try exact h.elim
    rename_i hq
    exact ⟨_, h, by simp [rdx, hq]⟩
  · split at h <;> try exact h.elim
    rename_i hq
    exact ⟨_, h, by simp [rdx, hq]⟩
  · split at h <;> try exact h.elim
    rename_i hq
    split at h <;> try exact h.elim
    rename_i hf
    exact ⟨_, h.2, by simp only [rdx, hq, hf, and_true]; exact h.1⟩
  · exact ⟨_, h, by simp [rdx]⟩
  · exact h.elim

theorem rdb_row {σ : Mem} {x : AV} {K : List Int → Prop} (h : rdb σ x K) : ∃ l, K l ∧ rdx σ [.ints .u8] x (fun c => c = [.ints .u8 l]) := by
  obtain ⟨cs, h1, h2⟩ := rdx_det h
  unfold oneInts at h1
  split at h1 <;> try exact h1.elim
  split at h1 <;> try exact h1.elim
  rename_i hk
  subst hk
  exact ⟨_, h1, h2⟩

theorem pairwise_one {a : Option Nat} : [a].Pairwise (fun a b => a = none ∨ a ≠ b) := by simp
theorem pairwise_nil : ([] : List (Option Nat)).Pairwise (fun a b => a = none ∨ a ≠ b) := .nil

theorem bytes_eq {a b : List Int} (ha : Bs a) (hb : Bs b) (h : bytesOf a = bytesOf b) : a = b := by
  have h2 : a.map (fun n => UInt8.ofNat n.toNat) = b.map (fun n => UInt8.ofNat n.toNat) := by
    have := congrArg (fun s => s.data.toList) h
    simpa [bytesOf] using this
  have key : ∀ {a : List Int}, Bs a → (a.map (fun n => UInt8.ofNat n.toNat)).map (fun b => (b.toNat : Int)) = a := by
    intro a ha
    rw [List.map_map]
    conv => rhs; rw [← List.map_id a]
    refine List.map_congr_left fun x hx => ?_
    obtain ⟨h0, h1⟩ := ha.all x hx
    simp only [Function.comp, UInt8.toNat_ofNat', id]
    omega
  rw [← key ha, ← key hb, h2]

theorem seq2_self {a b : List Int} (h : a = b) : seq2 (bytesOf a) (bytesOf b) = true := by subst h; simp [seq2]
theorem seq2_true {a b : ByteArray} : seq2 a b = true ↔ a = b := by
  have e : ∀ s : ByteArray, s.toList = s.data.toList := fun s => ByteArray.toList_eq s
  simp only [seq2, e, beq_iff_eq]
  constructor
  · intro h; cases a; cases b; simp only at h; congr; exact Array.toList_inj.1 h
  · intro h; rw [h]
end Go.Sx
