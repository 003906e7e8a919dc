/-
  Frames in plain Lean: what package frame and the document say of one. No program in sight.
-/
import Derived.Test.YtlfdpcddbnkpjaaDoorBitsPlain
namespace Go.Proofs.YtlfdpcddbnkpjaaDoor
namespace M

structure Frm where
  id : Int
  long : Bool
  fast : Bool
  remote : Bool
  size : Int
  data : List UInt8

def sizes : List Int := [0, 1, 2, 3, 4, 5, 6, 7, 8, 12, 16, 20, 24, 32, 48, 64]

/-- frame.Check of a frame with n bytes. -/
def fchk (id : Int) (lo fa re : Bool) (sz : Int) (n : Nat) : Int :=
  if id < 0 ∨ (lo = false ∧ 2047 < id) ∨ 536870911 < id then 3
  else if re = true ∧ (fa = true ∨ 0 < n) then 4
  else if sz < 0 ∨ 8 < sz ∨ (re = false ∧ sz ≠ 0) then 3
  else if 64 < n ∨ (fa = false ∧ 8 < n) then 2
  else if sizes.contains (n : Int) = true then 0 else 4

def Frm.chk (f : Frm) : Int := fchk f.id f.long f.fast f.remote f.size f.data.length

def bit1 (b : Bool) : List UInt8 := [if b then 49 else 48]

/-- The bits by which a frame is chosen. -/
def fname (id : Nat) (lo re : Bool) : List UInt8 :=
  if lo then wr (id / 262144) 11 ++ [49, 49] ++ wr id 18 ++ bit1 re else wr id 11 ++ bit1 re ++ [48]

def Frm.name (f : Frm) : List UInt8 := fname f.id.toNat f.long f.remote

end M
end Go.Proofs.YtlfdpcddbnkpjaaDoor
