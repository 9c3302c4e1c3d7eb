/- What is known of the field's powers and columns. -/
import Derived.Test.YtccjkjpdgpeogaaFieldB
namespace Go.Fld

/-- the power -/
def gp (a : Nat) : Nat → Nat
  | 0 => 1
  | n + 1 => gm (gp a n) a

theorem gp_lt {a : Nat} (h : a < 256) : ∀ n, gp a n < 256
  | 0 => by simp [gp]
  | n + 1 => gm_lt (gp_lt h n)

def fpow (a n : Int) : Int := if n < 0 then (gp (gi a.toNat) (-n).toNat : Nat) else (gp a.toNat n.toNat : Nat)

/-- the sum of a row's products, d of them from place i on -/
def ml (c f : List Nat) (r : Nat) : Nat → Nat → Nat → Nat
  | 0, _, s => s
  | d + 1, i, s => ml c f r d (i + 1) (s ^^^ gm (f.getD ((i + 4 - r) % 4) 0) (c.getD i 0))
def mix1 (c f : List Nat) (r : Nat) : Nat := ml c f r 4 0 0
/-- a column mixed by the factors f -/
def mixN (c f : List Nat) : List Nat := [mix1 c f 0, mix1 c f 1, mix1 c f 2, mix1 c f 3]
def intL (l : List Nat) : List Int := l.map fun (n : Nat) => (n : Int)
def natL (l : List Int) : List Nat := l.map Int.toNat
def fmix (c f : List Int) : List Int := intL (mixN (natL c) (natL f))

structure FCol (c : List Int) : Prop where
  len : c.length = 4
  all : ∀ x ∈ c, Byte x

structure In64 (n : Int) : Prop where
  lo : -9223372036854775808 ≤ n
  hi : n ≤ 9223372036854775807
end Go.Fld
namespace Go.Sx
open Go.Fld
def powS : Spec := ⟨0, false, fun _ args σ K => match args with
  | [.one (.int .u8 a), .one (.int .i64 n)] => (Byte a ∧ In64 n) ∧ K (.one (.int .u8 (fpow a n))) σ
  | _ => False⟩
def mixS : Spec := ⟨0, false, fun _ args σ K => match args with
  | [.agg [.ints .u8 4 c], .agg [.ints .u8 4 f]] => (FCol c ∧ FCol f) ∧ K (.agg [.ints .u8 4 (fmix c f)]) σ
  | _ => False⟩
def colS (f : List Int) : Spec := ⟨0, false, fun _ args σ K => match args with
  | [.agg [.ints .u8 4 c]] => FCol c ∧ K (.agg [.ints .u8 4 (fmix c f)]) σ
  | _ => False⟩
def gam5 : Gam := ext gam4 25 mixS
def gam6 : Gam := ext (ext (ext gam4 16 powS) 8 (colS [2, 3, 1, 1])) 10 (colS [14, 11, 13, 9])
end Go.Sx
