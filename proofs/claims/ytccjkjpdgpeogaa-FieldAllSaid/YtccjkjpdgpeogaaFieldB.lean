/- What is known of the field's functions. -/
import Derived.Test.YtccjkjpdgpeogaaFieldM
import Derived.Test.YtccjkjpdgpeogaaSxN
import Derived.Test.YtccjkjpdgpeogaaProg
namespace Go.Sx
open Go.Fld

def bin8 (val : Int → Int → Int) : Spec := ⟨0, false, fun _ args σ K => match args with
  | [.one (.int .u8 a), .one (.int .u8 b)] => (Byte a ∧ Byte b) ∧ K (.one (.int .u8 (val a b))) σ
  | _ => False⟩
def un8 (val : Int → Int) : Spec := ⟨0, false, fun _ args σ K => match args with
  | [.one (.int .u8 a)] => Byte a ∧ K (.one (.int .u8 (val a))) σ
  | _ => False⟩
def turnS : Spec := ⟨0, false, fun _ args σ K => match args with
  | [.one (.int .u8 a), .one (.int .i64 n)] => (Byte a ∧ InB n 9) ∧ K (.one (.int .u8 (fturn a n))) σ
  | _ => False⟩

def gam1 : Gam := ext (ext (ext gam0 13 (bin8 fmul)) 14 (bin8 fxor)) 27 turnS
def gam2 : Gam := ext gam1 15 (un8 finv)
def gam3 : Gam := ext (ext gam2 17 (un8 fsub)) 18 (un8 funsub)
def yesS : Spec := ⟨0, false, fun _ args σ K => match args with
  | [] => K (.one (.lit true)) σ
  | _ => False⟩
def gam4 : Gam := ext gam3 12 yesS
end Go.Sx
