/- What is known of the cell's functions. -/
import Derived.Test.YtgkklobamebnjaaByteM
import Derived.Test.YtgkklobamebnjaaProg
namespace Go.Cel
open Go Go.Sx

/-- all noughts -/
def zb (l : List Int) : Bool := l.all fun x => x == 0
/-- filled up to a cell -/
def fillL (l : List Int) : List Int := l ++ List.replicate (320 - l.length) 0

structure Short (l : List Int) : Prop where
  le : l.length ≤ 140737488355328

structure LaidOk (p f : List Int) (i : Int) : Prop where
  e : (f.length : Int) = i
  le : f.length + p.length ≤ 320

structure FillOk (p : List Int) : Prop where
  le : p.length ≤ 320

def padR (p : List Int) : List Int := if p.length ≤ 320 then fillL p else []
def padE (p : List Int) : Int := if p.length ≤ 320 then 0 else 1
def plainR (p : List Int) : List Int := if p.length ≤ 48 then fillL (1 :: (p.length : Int) :: p) else []
def plainE (p : List Int) : Int := if p.length ≤ 48 then 0 else 1
def noiseR (p : List Int) : List Int := if p.length ≤ 319 then fillL (0 :: p) else []
def noiseE (p : List Int) : Int := if p.length ≤ 319 then 0 else 1
def cutE (c : List Int) (n : Int) : Int := if c.length ≠ 320 then 50 else if n < 0 ∨ 320 < n then 2 else if zb (c.drop n.toNat) = false then 51 else 0
def cutR (c : List Int) (n : Int) : List Int := if cutE c n = 0 then c.take n.toNat else []
def opE (c : List Int) : Int := if c.length ≠ 320 then 50 else if c.getD 0 0 = 0 then 0 else if c.getD 0 0 ≠ 1 then 52 else if 48 < c.getD 1 0 then 53 else if zb (c.drop (2 + (c.getD 1 0).toNat)) = false then 51 else 0
def opY (c : List Int) : Bool := decide (opE c = 0) && decide (c.getD 0 0 ≠ 0)
def opR (c : List Int) : List Int := if opY c = true then (c.drop 2).take (c.getD 1 0).toNat else []
end Go.Cel
namespace Go.Sx
open Go.Cel

def noughtsS : Spec := ⟨0, false, fun _ args σ K => match args with
  | [x] => rdb σ x fun l => Short l ∧ K (.one (.bool (zb l))) σ
  | _ => False⟩
def noughts2S : Spec := ⟨0, false, fun _ args σ K => match args with
  | [x, .one (.int .i64 i)] => rdb σ x fun l => (Short l ∧ NonNeg i) ∧ K (.one (.bool (zb (l.drop (nat i))))) σ
  | _ => False⟩
def laidS : Spec := ⟨1, false, fun d args σ K => match args with
  | [x, .one (.int .i64 i), y] => rdb σ x fun p => rdb σ y fun f => LaidOk p f i ∧ K (.one (.vec d)) (Mem.ins d (.vec [.ints .u8 (fillL (lcat f p))]) σ)
  | _ => False⟩
def fillS : Spec := ⟨1, false, fun d args σ K => match args with
  | [x] => rdb σ x fun p => FillOk p ∧ K (.one (.vec d)) (Mem.ins d (.vec [.ints .u8 (fillL p)]) σ)
  | _ => False⟩
/-- a list and an error out of a list -/
def lstS (r : List Int → List Int) (e : List Int → Int) : Spec := ⟨1, false, fun d args σ K => match args with
  | [x] => rdb σ x fun p => Short p ∧ K (.tup [.c (.vec d), .c (.int .i64 (e p))]) (Mem.ins d (.vec [.ints .u8 (r p)]) σ)
  | _ => False⟩
def cutS : Spec := ⟨1, false, fun d args σ K => match args with
  | [x, .one (.int .i64 n)] => rdb σ x fun c => Short c ∧ K (.tup [.c (.vec d), .c (.int .i64 (cutE c n))]) (Mem.ins d (.vec [.ints .u8 (cutR c n)]) σ)
  | _ => False⟩
def openS : Spec := ⟨1, false, fun d args σ K => match args with
  | [x] => rdb σ x fun c => (Short c ∧ Bs c) ∧ K (.tup [.c (.vec d), .c (.bool (opY c)), .c (.int .i64 (opE c))]) (Mem.ins d (.vec [.ints .u8 (opR c)]) σ)
  | _ => False⟩

def gamC1 : Gam := ext (ext (ext (ext gam0 21 noughtsS) 22 noughts2S) 20 laidS) 19 fillS
def gamC2 : Gam := ext (ext (ext (ext (ext gamC1 12 (lstS padR padE)) 13 (lstS plainR plainE)) 14 (lstS noiseR noiseE)) 18 cutS) 15 openS
def gamC3 : Gam := ext (ext (ext (ext (ext gamC2 9 (lstS padR padE)) 10 (lstS plainR plainE)) 11 (lstS noiseR noiseE)) 16 cutS) 17 openS
/-- a function that says yes -/
def yesS : Spec := ⟨0, false, fun _ args σ K => match args with
  | [] => K (.one (.bool true)) σ
  | _ => False⟩
def gamC4 : Gam := ext gamC3 8 yesS
end Go.Sx
