/- What math.Sincos and dft.Roots compute, as functions of the bits. No program in sight. -/
import Derived.Laws.ComplexQuo
namespace Go.Proofs.YtijbjncdiojpdaaDoor
open Go

def fb (op : BinOp) (x y : Nat) : Option Nat := floatBits op .f64 x y
def fo (x y : Nat) : Option Ordering := FloatKind.f64.format.order x y
def one64 : Nat := 4607182418800017408
def horner (zz : Nat) : Nat → List Nat → Option Nat
  | a, [] => some a
  | a, c :: cs => (fb .mul a zz).bind fun m => (fb .add m c).bind fun s => horner zz s cs
def cosPoly (zz : Nat) : Option Nat :=
  (fb .mul 4602678819172646912 zz).bind fun h => (fb .sub one64 h).bind fun a => (fb .mul zz zz).bind fun q =>
  (horner zz 13666448263388469915 [4477121864728985349, 13732177093698800582, 4537941361668146421, 13787419979223748497, 4586165620538955083]).bind fun p =>
  (fb .mul q p).bind fun r => fb .add a r
def sinPoly (z zz : Nat) : Option Nat :=
  (fb .mul z zz).bind fun q =>
  (horner zz 4460209587652500685 [13716528389658582877, 4523617212962785441, 13774824197404483331, 4575957461383575504, 13818544856648471880]).bind fun p =>
  (fb .mul q p).bind fun r => fb .add z r
/-- An argument that goes the plain way: above zero, below the threshold of the great ones. -/
def regular (x : Nat) : Bool := fo x 0 == some .gt && (fo x x == some .eq && (fo x 4737786807993761792 == some .lt && (fo x 9218868437227405311 == some .lt && decide (x < 9223372036854775808))))
def octant (j s c : Nat) : Nat × Nat :=
  if j = 0 ∨ j = 7 then (s, c) else if j = 1 ∨ j = 2 then (c, Op.negFloat .f64 s) else if j = 3 ∨ j = 4 then (Op.negFloat .f64 s, Op.negFloat .f64 c) else (Op.negFloat .f64 c, s)
/-- The reduction of the argument: the octant and what is left. -/
def reduce (x : Nat) : Option (Nat × Nat) :=
  (fb .mul x 4608412980311869571).bind fun t => (floatToIntVal .f64 t .u64).bind fun j =>
  if 0 ≤ j ∧ j ≤ 7 then
  (if j % 2 = 1 then fb .add (floatOfInt .f64 j) one64 else some (floatOfInt .f64 j)).bind fun y =>
  (fb .mul y 4605249456957292544).bind fun m1 => (fb .sub x m1).bind fun z1 =>
  (fb .mul y 4495793288086814720).bind fun m2 => (fb .sub z1 m2).bind fun z2 =>
  (fb .mul y 4388835458085048688).bind fun m3 => (fb .sub z2 m3).bind fun z => some (j.toNat, z)
  else none
def sincosSpec (x : Nat) : Option (Nat × Nat) :=
  if fo x 0 = some .eq then some (x, one64)
  else if regular x then
  (reduce x).bind fun r => (fb .mul r.2 r.2).bind fun zz => (cosPoly zz).bind fun c => (sinPoly r.2 zz).bind fun s => some (octant r.1 s c)
  else none
def angle (n k : Nat) : Option Nat := (fb .mul 4618760256179416344 (floatOfInt .f64 (k : Int))).bind fun a => fb .quo a (floatOfInt .f64 (n : Int))
def rootAt (n k : Nat) : Option (Nat × Nat) := (angle n k).bind fun a => (sincosSpec a).bind fun r => some (r.2, r.1)
end Go.Proofs.YtijbjncdiojpdaaDoor
