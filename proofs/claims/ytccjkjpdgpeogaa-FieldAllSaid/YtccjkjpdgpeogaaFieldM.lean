/- The field of 256 elements, on numbers: plain mathematics. -/
import Derived.Test.YtccjkjpdgpeogaaSx0
namespace Go.Fld

def xt (a : Nat) : Nat := if a < 128 then 2 * a else (2 * a - 256) ^^^ 27

def gl : Nat → Nat → Nat → Nat → Nat
  | 0, _, _, s => s
  | d + 1, a, b, s => gl d (xt a) (b / 2) (if b % 2 = 1 then s ^^^ a else s)

/-- the product -/
def gm (a b : Nat) : Nat := gl 8 a b 0

theorem xt_lt {a : Nat} (h : a < 256) : xt a < 256 := by
  unfold xt
  split
  · omega
  · exact Nat.xor_lt_two_pow (n := 8) (by omega) (by omega)

theorem xor_lt {a b : Nat} (ha : a < 256) (hb : b < 256) : a ^^^ b < 256 := Nat.xor_lt_two_pow (n := 8) ha hb

theorem gl_lt : ∀ (d a b s : Nat), a < 256 → s < 256 → gl d a b s < 256
  | 0, _, _, _, _, hs => hs
  | d + 1, a, b, s, ha, hs => by
    simp only [gl]
    refine gl_lt d _ _ _ (xt_lt ha) ?_
    split
    · exact xor_lt hs ha
    · exact hs

theorem gm_lt {a b : Nat} (ha : a < 256) : gm a b < 256 := gl_lt 8 a b 0 ha (by omega)

/-- squares and products, d rounds of them -/
def il : Nat → Nat → Nat → Nat
  | 0, p, _ => p
  | d + 1, p, q => il d (gm p (gm q q)) (gm q q)

/-- the inverse -/
def gi (a : Nat) : Nat := il 7 1 a

theorem il_lt : ∀ (d p q : Nat), p < 256 → il d p q < 256
  | 0, _, _, h => h
  | d + 1, p, q, h => by simp only [il]; exact il_lt d _ _ (gm_lt h)

theorem gi_lt (a : Nat) : gi a < 256 := il_lt 7 1 a (by omega)

def turn (b n : Nat) : Nat := (b * 2 ^ n % 256) ||| (b / 2 ^ (8 - n))

/-- the substitution -/
def gs (a : Nat) : Nat := let b := gi a; b ^^^ turn b 1 ^^^ turn b 2 ^^^ turn b 3 ^^^ turn b 4 ^^^ 99
def gu (a : Nat) : Nat := gi (turn a 1 ^^^ turn a 3 ^^^ turn a 6 ^^^ 5)

/-! ### on Go's bytes -/
def fmul (a b : Int) : Int := (gm a.toNat b.toNat : Nat)
def finv (a : Int) : Int := (gi a.toNat : Nat)
def fsub (a : Int) : Int := (gs a.toNat : Nat)
def funsub (a : Int) : Int := (gu a.toNat : Nat)
def fturn (a n : Int) : Int := (turn a.toNat n.toNat : Nat)
def fxor (a b : Int) : Int := (a.toNat ^^^ b.toNat : Nat)

structure Byte (a : Int) : Prop where
  lo : 0 ≤ a
  hi : a < 256

theorem Byte.nat {a : Int} (h : Byte a) : ∃ n : Nat, n < 256 ∧ a = (n : Int) := ⟨a.toNat, by have := h.lo; have := h.hi; omega, by have := h.lo; omega⟩
theorem Byte.of {n : Nat} (h : n < 256) : Byte (n : Int) := ⟨by omega, by omega⟩

theorem turn_lt {b n : Nat} (hb : b < 256) : turn b n < 256 := Nat.or_lt_two_pow (n := 8) (Nat.mod_lt _ (by decide)) (Nat.lt_of_le_of_lt (Nat.div_le_self _ _) hb)

theorem gs_lt (a : Nat) : gs a < 256 := by
  have h := gi_lt a
  have t := fun n => turn_lt (n := n) h
  exact xor_lt (xor_lt (xor_lt (xor_lt (xor_lt h (t 1)) (t 2)) (t 3)) (t 4)) (by decide)
theorem gu_lt (a : Nat) : gu a < 256 := gi_lt _
end Go.Fld
