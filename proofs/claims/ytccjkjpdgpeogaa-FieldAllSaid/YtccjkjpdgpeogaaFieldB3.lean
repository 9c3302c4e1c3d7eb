/- What is known of the document's field. -/
import Derived.Test.YtccjkjpdgpeogaaFieldB2
namespace Go.Fld
def frow (c f : List Int) (k : Int) : Int := (mix1 (natL c) (natL f) k.toNat : Nat)
structure Low4 (k : Int) : Prop where
  lo : 0 ≤ k
  hi : k < 4
end Go.Fld
namespace Go.Sx
open Go.Fld
def rowS : Spec := ⟨0, false, fun _ args σ K => match args with
  | [.agg [.ints .u8 4 c], .agg [.ints .u8 4 f], .one (.int .i64 k)] => ((FCol c ∧ FCol f) ∧ Low4 k) ∧ K (.one (.int .u8 (frow c f k))) σ
  | _ => False⟩
def gam7 : Gam := ext (ext gam6 20 (bin8 fmul)) 19 (bin8 fxor)
def gam7r : Gam := ext gam7 26 rowS
def gamCol : Gam := ext (ext gam7r 9 (colS [2, 3, 1, 1])) 11 (colS [14, 11, 13, 9])
def gam8 : Gam := ext (ext gamCol 21 (un8 finv)) 22 powS
def gam9 : Gam := ext gam8 23 (un8 fsub)
def gam10 : Gam := ext gam9 24 (un8 funsub)
end Go.Sx
