/-
  Plain definitions: what a request's bytes are read as.
-/
import Derived.Test.YtafljoiblfhioaaGreatDoorR
import Derived.Test.YtafljoiblfhioaaGreatDoorJ
namespace Go.Proofs.YtafljoiblfhioaaGreatDoor
open Go.RowKit

/-- Method, target, minor. -/
abbrev RL := List UInt8 × List UInt8 × Int
def rl0 : RL := ([], [], 0)
def parseF (l : List UInt8) : Option FD :=
  if (Lib.cut l [58]).2.2 = true ∧ right (Lib.cut l [58]).1 (trim (Lib.cut l [58]).2.1) = true then some ((Lib.cut l [58]).1, trim (Lib.cut l [58]).2.1) else none

/-- What a head comes to: its first line, its fields, how many bytes it has, a status. -/
def headGo (full : Bool) : Nat → Nat → RL → List FD → List UInt8 → RL × List FD × Nat × Int
  | 0, _, q, _, _ => (q, [], 0, 0)
  | f + 1, at_, q, fs, r =>
    if (cutF r 2048).2.2 = 20 then (q, [], 0, 400)
    else if (cutF r 2048).2.1 = 0 then (q, [], 0, if full then 431 else 0)
    else if at_ = 0 then
      if (reqF (cutF r 2048).1).2 = 0 then headGo full f (at_ + (cutF r 2048).2.1) (reqF (cutF r 2048).1).1 fs (r.drop (cutF r 2048).2.1)
      else ((reqF (cutF r 2048).1).1, [], 0, (reqF (cutF r 2048).1).2)
    else if (cutF r 2048).1 = [] then (q, fs, at_ + (cutF r 2048).2.1, 0)
    else match parseF (cutF r 2048).1 with
      | none => (q, [], 0, 400)
      | some p => if fs.length = 40 then (q, [], 0, 431) else headGo full f (at_ + (cutF r 2048).2.1) q (fs ++ [p]) (r.drop (cutF r 2048).2.1)
def headF (b : List UInt8) : RL × List FD × Nat × Int := headGo (decide (2048 ≤ b.length)) (b.length + 1) 0 rl0 [] (b.take 2048)

def sHost : List UInt8 := [72, 111, 115, 116]
def hostsF (minor : Int) (fs : List FD) : Bool := match getF fs sHost with
  | [] => minor == 0
  | v :: t => (hostF v).2 && t.isEmpty
/-- A request's head: first line, fields, how many bytes it has, the body's length, whether it comes in chunks, a status. -/
def openF (b : List UInt8) : RL × List FD × Nat × Int × Bool × Int :=
  if (headF b).2.2.1 = 0 then (rl0, [], 0, 0, false, (headF b).2.2.2)
  else if hostsF (headF b).1.2.2 (headF b).2.1 = false then (rl0, [], 0, 0, false, 400)
  else ((headF b).1, (headF b).2.1, (headF b).2.2.1, (frameF (headF b).2.1 (headF b).1.2.2).1, (frameF (headF b).2.1 (headF b).1.2.2).2.1, (frameF (headF b).2.1 (headF b).1.2.2).2.2)

/-- The size of the next chunk: the size, an error, whether more is needed, how many bytes the line takes. -/
def sizeF (r : List UInt8) : Int × Int × Bool × Nat :=
  if (cutF r 256).2.2 ≠ 0 then (0, (cutF r 256).2.2, false, (cutF r 256).2.1)
  else if (cutF r 256).2.1 = 0 then (0, 0, true, 0)
  else if (number 16 15 (Lib.trimRightS (Lib.cut (cutF r 256).1 [59]).1 blanks)).2 = true ∧ (Lib.cut (cutF r 256).1 [59]).2.1.all valC = true then ((number 16 15 (Lib.trimRightS (Lib.cut (cutF r 256).1 [59]).1 blanks)).1, 0, false, (cutF r 256).2.1)
  else (0, 30, false, (cutF r 256).2.1)
/-- A chunk's bytes: the bytes, an error, whether more is needed, how many bytes they take. -/
def dataF (r : List UInt8) (n : Nat) : List UInt8 × Int × Bool × Nat :=
  if (n < r.length ∧ r[n]? ≠ some 13) ∨ (n + 1 < r.length ∧ r[n + 1]? ≠ some 10) then ([], 20, false, 0)
  else if r.length < n + 2 then ([], 0, true, 0)
  else (r.take n, 0, false, n + 2)
/-- The trailer lines: an error, whether more is needed, how many bytes they take. -/
def trailGo : Nat → Nat → Nat → List UInt8 → Int × Bool × Nat
  | 0, _, at_, _ => (0, false, at_)
  | f + 1, n, at_, r =>
    if (cutF r 256).2.2 ≠ 0 then ((cutF r 256).2.2, false, at_)
    else if (cutF r 256).2.1 = 0 then (0, true, at_)
    else if (cutF r 256).1 = [] then (0, false, at_ + (cutF r 256).2.1)
    else match parseF (cutF r 256).1 with
      | none => (20, false, at_)
      | some _ => if n = 40 then (3, false, at_) else trailGo f (n + 1) (at_ + (cutF r 256).2.1) (r.drop (cutF r 256).2.1)
/-- The body with which bytes begin: the body, how many bytes it takes, an error. -/
def decGo : Nat → Nat → Nat → List UInt8 → List UInt8 → List UInt8 × Nat × Int
  | 0, _, _, _, _ => ([], 0, 0)
  | f + 1, left, at_, out, r =>
    if (sizeF r).2.1 ≠ 0 then ([], 0, (sizeF r).2.1)
    else if (sizeF r).2.2.1 = true then ([], 0, 0)
    else if (sizeF r).1 = 0 then
      if (trailGo (r.length + 1) 0 (at_ + (sizeF r).2.2.2) (r.drop (sizeF r).2.2.2)).1 ≠ 0 then ([], 0, (trailGo (r.length + 1) 0 (at_ + (sizeF r).2.2.2) (r.drop (sizeF r).2.2.2)).1)
      else if (trailGo (r.length + 1) 0 (at_ + (sizeF r).2.2.2) (r.drop (sizeF r).2.2.2)).2.1 = true then ([], 0, 0)
      else (out, (trailGo (r.length + 1) 0 (at_ + (sizeF r).2.2.2) (r.drop (sizeF r).2.2.2)).2.2, 0)
    else if (left : Int) < (sizeF r).1 then ([], 0, 2)
    else if (dataF (r.drop (sizeF r).2.2.2) (sizeF r).1.toNat).2.1 ≠ 0 then ([], 0, (dataF (r.drop (sizeF r).2.2.2) (sizeF r).1.toNat).2.1)
    else if (dataF (r.drop (sizeF r).2.2.2) (sizeF r).1.toNat).2.2.1 = true then ([], 0, 0)
    else decGo f (left - (sizeF r).1.toNat) (at_ + (sizeF r).2.2.2 + ((sizeF r).1.toNat + 2)) (out ++ (dataF (r.drop (sizeF r).2.2.2) (sizeF r).1.toNat).1) (r.drop ((sizeF r).2.2.2 + ((sizeF r).1.toNat + 2)))
def decF (b : List UInt8) : List UInt8 × Nat × Int := decGo (b.length + 1) 4096 0 [] b
/-- The body behind a head: the body, how many bytes it takes (-1: it isn't whole), a status. -/
def bodyF (b : List UInt8) (size : Nat) (coded : Bool) : List UInt8 × Int × Int :=
  if coded = false then
    if b.length < size then ([], -1, 0) else (b.take size, (size : Int), 0)
  else if (decF b).2.2 = 2 then ([], -1, 413)
  else if (decF b).2.2 ≠ 0 then ([], -1, 400)
  else if (decF b).2.1 = 0 then ([], -1, 0)
  else ((decF b).1, ((decF b).2.1 : Int), 0)
/-- The request with which bytes begin: first line, fields, body, how many bytes it takes, a status. -/
def requestF (b : List UInt8) : RL × List FD × List UInt8 × Nat × Int :=
  if (openF b).2.2.1 = 0 ∨ (openF b).2.2.2.2.2 ≠ 0 then (rl0, [], [], 0, (openF b).2.2.2.2.2)
  else if (bodyF (b.drop (openF b).2.2.1) (openF b).2.2.2.1.toNat (openF b).2.2.2.2.1).2.1 < 0 then (rl0, [], [], 0, (bodyF (b.drop (openF b).2.2.1) (openF b).2.2.2.1.toNat (openF b).2.2.2.2.1).2.2)
  else ((openF b).1, (openF b).2.1, (bodyF (b.drop (openF b).2.2.1) (openF b).2.2.2.1.toNat (openF b).2.2.2.2.1).1, (openF b).2.2.1 + (bodyF (b.drop (openF b).2.2.1) (openF b).2.2.2.1.toNat (openF b).2.2.2.2.1).2.1.toNat, 0)
end Go.Proofs.YtafljoiblfhioaaGreatDoor
