/- A collection, plainly: Cheney's two fingers. -/
import Derived.Test.YtanjiecefioffaaRowWords
namespace Go.Proofs.Ytanjiecefioffaa
open Go.RowKit

/-- While it goes: the new words, where objects begin there, where each old one was copied to (0: nowhere yet). -/
structure CS where
  tw : List Int
  tb : List Bool
  gone : List Int

def sizeAt (ws : List Int) (k : Nat) : Nat := 1 + (tagH (ws.getD k 0)).toNat + (rawH (ws.getD k 0)).toNat

/-- An object at place k is copied. -/
def CS.put (S : HS) (c : CS) (k : Nat) : CS :=
  { tw := c.tw ++ (S.ws.drop k).take (sizeAt S.ws k), tb := c.tb ++ laid (sizeAt S.ws k), gone := c.gone.set k (4 * c.tw.length) }
def copy1 (S : HS) (c : CS) (w : Int) : CS × Int :=
  if S.is w = true then
    if c.gone.getD (w / 4).toNat 0 = 0 then (c.put S (w / 4).toNat, 4 * c.tw.length) else (c, c.gone.getD (w / 4).toNat 0)
  else (c, w)
/-- The roots, one by one. -/
def copyAll (S : HS) (c : CS) : List Int → CS × List Int
  | [] => (c, [])
  | w :: l => let (c1, v) := copy1 S c w; let (c2, vs) := copyAll S c1 l; (c2, v :: vs)
/-- A tagged field of an object in the new half. -/
def fix1 (S : HS) (c : CS) (j : Nat) : CS := let (c1, v) := copy1 S c (c.tw.getD j 0); { c1 with tw := c1.tw.set j v }
/-- n tagged fields from place j on. -/
def fixN (S : HS) (c : CS) (j : Nat) : Nat → CS
  | 0 => c
  | n + 1 => fixN S (fix1 S c j) (j + 1) n
/-- The objects of the new half, from place 'at' on. -/
def scan (S : HS) : Nat → CS → Nat → CS
  | 0, c, _ => c
  | f + 1, c, j => if j < c.tw.length then scan S f (fixN S c (j + 1) (tagH (c.tw.getD j 0)).toNat) (j + sizeAt c.tw j) else c
def CS.zero (S : HS) : CS := { tw := [0], tb := [false], gone := List.replicate S.ws.length 0 }
def gcEnd (S : HS) (roots : List Int) : CS := scan S S.ws.length (copyAll S (CS.zero S) roots).1 1
def HS.collect (S : HS) (roots : List Int) : HS := { size := S.size, ws := (gcEnd S roots).tw, bs := (gcEnd S roots).tb, times := S.times + 1 }
def HS.moved (S : HS) (roots : List Int) : List Int := (copyAll S (CS.zero S) roots).2
end Go.Proofs.Ytanjiecefioffaa
