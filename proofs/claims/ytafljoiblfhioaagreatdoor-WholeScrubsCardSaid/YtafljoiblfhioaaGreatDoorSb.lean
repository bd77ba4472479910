/-
  Plain definitions: what is wrong with a configuration; which route fits.
-/
import Derived.Test.YtafljoiblfhioaaGreatDoorSa
namespace Go.Proofs.YtafljoiblfhioaaGreatDoor
open Go.RowKit

structure CF where
  ups : List (List UInt8 × List (List UInt8))
  routes : List (List UInt8 × List UInt8 × List UInt8)
  set : List FD
  drop : List (List UInt8)
  total : Int
  tries : Int
  fails : Int
  cool : Int
def cf0 : CF := ⟨[], [], [], [], 0, 0, 0, 0⟩

def nameC (c : UInt8) : Bool := (97 ≤ c && c ≤ 122) || ((48 ≤ c && c ≤ 57) || c == 45)
def nameF (l : List UInt8) : Bool := match l with
  | [] => false
  | c :: _ => decide (l.length ≤ 30) && ((97 ≤ c && c ≤ 122) && l.all nameC)
def pathF (l : List UInt8) : Bool := target l && (l.head? == some 47 && decide (l.length ≤ 100))
def aimBad (l : List UInt8) : Bool := !target l || decide (40 < l.length)
def upF (u : List UInt8 × List (List UInt8)) : Bool := nameF u.1 && !u.2.any aimBad
def setF (f : FD) : Bool := right f.1 f.2 && !keptF f.1
def dropF (n : List UInt8) : Bool := token n && (decide (n.length ≤ 100) && !keptF n)
def outside (n lo hi : Int) : Bool := decide (n < lo) || decide (hi < n)
def numsL (c : CF) : List (Int × Int × Int) := [(c.total, 1, 1048576), (c.tries, 0, 3), (c.fails, 1, 100), (c.cool, 0, 1048576)]
def numBad (x : Int × Int × Int) : Bool := outside x.1 x.2.1 x.2.2
def upMany (u : List UInt8 × List (List UInt8)) : Bool := decide (u.2.length < 1) || decide (8 < u.2.length)
def manyF (c : CF) : Bool := c.ups.any upMany || (decide (16 < c.ups.length) || (decide (32 < c.routes.length) || (decide (16 < c.set.length) || decide (16 < c.drop.length))))
def routeF (r : List UInt8 × List UInt8 × List UInt8) : Bool := pathF r.1 && pathF r.2.2
def rightF (c : CF) : Bool := c.ups.all upF && (c.routes.all routeF && (c.set.all setF && (c.drop.all dropF && !(numsL c).any numBad)))
/-- The keys of a set into which one more is put. -/
def addK (ks : List (List UInt8)) (s : List UInt8) : List (List UInt8) := if ks.contains s then ks else ks ++ [s]
def keysF (l : List (List UInt8)) : List (List UInt8) := l.foldl addK []
def lostF (c : CF) : Bool := c.routes.any (fun r => !(keysF (c.ups.map (·.1))).contains r.2.1)
def checkF (c : CF) : Int :=
  if manyF c then 3
  else if rightF c = false then 1
  else if (keysF (c.ups.map (·.1))).length < c.ups.length ∨ (keysF (c.routes.map (·.1))).length < c.routes.length then 72
  else if lostF c then 71 else 0

theorem check_right {c : CF} (h : checkF c = 0) : manyF c = false ∧ rightF c = true := by
  unfold checkF at h
  split at h
  · cases h
  split at h
  · cases h
  rename_i h1 h2
  exact ⟨by simpa using h1, by simpa using h2⟩
theorem check_set {c : CF} (h : checkF c = 0) : c.set.length ≤ 16 ∧ ∀ f ∈ c.set, keptF f.1 = false ∧ f.1.length ≤ 100 ∧ f.2.length ≤ 1000 := by
  obtain ⟨h1, h2⟩ := check_right h
  unfold manyF at h1
  unfold rightF at h2
  simp only [Bool.or_eq_false_iff, decide_eq_false_iff_not, Bool.and_eq_true, List.all_eq_true] at h1 h2
  refine ⟨by omega, fun f hf => ?_⟩
  have h3 := h2.2.2.1 f hf
  unfold setF right at h3
  simp only [Bool.and_eq_true, decide_eq_true_eq, Bool.not_eq_true'] at h3
  exact ⟨h3.2, h3.1.1, h3.1.2.2.1⟩
theorem check_drop {c : CF} (h : checkF c = 0) : c.drop.length ≤ 16 ∧ ∀ n ∈ c.drop, n.length ≤ 100 := by
  obtain ⟨h1, h2⟩ := check_right h
  unfold manyF at h1
  unfold rightF at h2
  simp only [Bool.or_eq_false_iff, decide_eq_false_iff_not, Bool.and_eq_true, List.all_eq_true] at h1 h2
  refine ⟨by omega, fun n hn => ?_⟩
  have h3 := h2.2.2.2.1 n hn
  unfold dropF at h3
  simp only [Bool.and_eq_true, decide_eq_true_eq] at h3
  exact h3.2.1

/-- Does a prefix fit a target? -/
def fitsF (p t : List UInt8) : Bool := Lib.hasPrefix (Lib.cut t [63]).1 p && ((Lib.trimPrefix (Lib.cut t [63]).1 p).isEmpty || (Lib.hasSuffix p [47] || (Lib.trimPrefix (Lib.cut t [63]).1 p).head? == some 47))

/-- The example's text: up u a, route /a u /n, set X y, total 1, tries 0, fails 1, cool 0. -/
def exText : List UInt8 := [117, 112, 32, 117, 32, 97, 10, 114, 111, 117, 116, 101, 32, 47, 97, 32, 117, 32, 47, 110, 10, 115, 101, 116, 32, 88, 32, 121, 10, 116, 111, 116, 97, 108, 32, 49, 10, 116, 114, 105, 101, 115, 32, 48, 10, 102, 97, 105, 108, 115, 32, 49, 10, 99, 111, 111, 108, 32, 48, 10]
def exConf : CF := ⟨[([117], [[97]])], [([47, 97], [117], [47, 110])], [([88], [121])], [], 1, 0, 1, 0⟩
theorem ex_check : checkF exConf = 0 := by decide
end Go.Proofs.YtafljoiblfhioaaGreatDoor
