/- The law FieldLaws: sum and product are those of a field: for every three bytes the law's walk comes to true. -/
import Derived.Test.YtccjkjpdgpeogaaFieldP
import Derived.Test.YtccjkjpdgpeogaaFieldM2
namespace Go.Proofs.Ytccjkjpdgpeogaa.G
open Go Go.Sx Go.Fld
set_option linter.unusedSimpArgs false
set_option linter.unusedVariables false

theorem good_awake : Sx.Good Try.prog 12 yesS := by
  refine Sx.Good.pure2 (D := []) mixed gam3_good Try.func12 (by kernel_rfl) rfl fun d args σ K h => ?_
  simp only [yesS] at h
  split at h <;> try exact h.elim
  refine ⟨by simp, _, fun _ => rfl, h, 0 + 1, ?_⟩
  rw [awake_vc]
  exact ⟨⟨⟨by decide, by decide⟩, ⟨by decide, by decide⟩⟩, fun _ => ⟨⟨by decide, by decide⟩, fun ρ v hv => hv⟩, fun q => by cases q⟩

theorem gam4_good : GoodG Try.prog gam4 := gam3_good.ext good_awake ⟨_, Try.func12, by decide, by kernel_rfl⟩

def Yes (av : AV) (_ : Mem) : Prop := av = .one (.bool true) ∨ av = .one (.lit true)

theorem fieldLaws_plain {a b c : Nat} (ha : a < 256) (hb : b < 256) (hc : c < 256) (fuel : Nat) : Has (callsx Try.prog gam4 [] Try.f4 (fuel + 1) [.one (.int .u8 a), .one (.int .u8 b), .one (.int .u8 c)] [] Yes) := by
  constructor
  rw [FieldLaws_vc]
  have m : ∀ x y : Nat, fmul (x : Int) (y : Int) = (gm x y : Nat) := fun x y => by simp [fmul]
  have x : ∀ x y : Nat, fxor (x : Int) (y : Int) = (x ^^^ y : Nat) := fun x y => by simp [fxor]
  have m1 : fmul (a : Int) 1 = (gm a 1 : Nat) := m a 1
  have x0' : fxor (a : Int) 0 = (a ^^^ 0 : Nat) := x a 0
  have i : finv (a : Int) = (gi a : Nat) := by simp [finv]
  have B : ∀ n : Nat, n < 256 → Byte (n : Int) := fun n h => .of h
  have b0 : Byte 0 := ⟨by decide, by decide⟩
  have b1 : Byte 1 := ⟨by decide, by decide⟩
  have f : ∀ p q : Nat, p = q → ine (p : Int) (q : Int) = false := fun p q h => by rw [ine_false]; omega
  have e1 := f _ _ (gm_comm ha hb)
  have e2 := f _ _ (Nat.xor_comm a b)
  have e3 : ine ((a ^^^ a : Nat) : Int) 0 = false := f _ 0 (Nat.xor_self a)
  have e4 := f _ _ (Nat.xor_zero a)
  have e5 := f _ _ (gm_assoc ha hb hc)
  have e6 := f _ _ (Nat.xor_assoc a b c)
  have e7 := f _ _ (gm_lin2 a b c)
  have e8 := f _ _ (gm_one a ha)
  have z := gm_eq_zero ha hb
  have zz : ieq ((gm a b : Nat) : Int) 0 = (ieq (a : Int) 0 || ieq (b : Int) 0) := by
    rw [Bool.eq_iff_iff, Bool.or_eq_true, ieq_true, ieq_true, ieq_true]; omega
  have inv0 : a = 0 → ieq ((gi a : Nat) : Int) 0 = true := fun h => by subst h; rw [gi_zero]; rfl
  have inv1 : a ≠ 0 → ieq ((gm a (gi a) : Nat) : Int) 1 = true := fun h => by rw [gm_inv a ha h]; rfl
  simp only [m, x, m1, x0', i, e1, e2, e3, e4, e5, e6, e7, e8, zz, B _ ha, B _ hb, B _ hc, B _ (gm_lt ha), B _ (gm_lt hb), B _ (xor_lt ha hb), B _ (xor_lt hb hc), B _ (gi_lt a), b0, b1, true_and, and_true, forall_const, reduceCtorEq, false_implies, implies_true]
  by_cases h0 : a = 0
  · have q1 : ieq (a : Int) 0 = true := by rw [ieq_true]; omega
    simp [q1, inv0 h0, Yes, beq2, bnot]
  · have q1 : ieq (a : Int) 0 = false := by rw [ieq_false]; omega
    have q2 : ine (a : Int) 0 = true := by rw [ine_true]; omega
    simp [q1, q2, inv1 h0, Yes, beq2, bnot]
end Go.Proofs.Ytccjkjpdgpeogaa.G
