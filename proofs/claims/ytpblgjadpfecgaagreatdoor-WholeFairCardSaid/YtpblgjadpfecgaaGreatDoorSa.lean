/-
  The plain law: what is scrubbed stays; hop-by-hop fields change nothing.
-/
import Derived.Test.YtpblgjadpfecgaaGreatDoorP1
set_option linter.unusedSimpArgs false
set_option linter.unusedVariables false
namespace Go.Proofs.YtpblgjadpfecgaaGreatDoor
open Go.RowKit

def sConn : List UInt8 := [67, 111, 110, 110, 101, 99, 116, 105, 111, 110]
def sOwn : List UInt8 := [120, 45, 116, 111, 108, 108, 98, 97, 114, 45]
def sPost : List UInt8 := [80, 79, 83, 84]
def sPut : List UInt8 := [80, 85, 84]
def sPatch : List UInt8 := [80, 65, 84, 67, 72]
/-- host, content-length, transfer-encoding, connection, keep-alive, proxy-connection, te, trailer, upgrade, expect, via -/
def keptL : List (List UInt8) := [[104, 111, 115, 116], [99, 111, 110, 116, 101, 110, 116, 45, 108, 101, 110, 103, 116, 104], [116, 114, 97, 110, 115, 102, 101, 114, 45, 101, 110, 99, 111, 100, 105, 110, 103], [99, 111, 110, 110, 101, 99, 116, 105, 111, 110], [107, 101, 101, 112, 45, 97, 108, 105, 118, 101], [112, 114, 111, 120, 121, 45, 99, 111, 110, 110, 101, 99, 116, 105, 111, 110], [116, 101], [116, 114, 97, 105, 108, 101, 114], [117, 112, 103, 114, 97, 100, 101], [101, 120, 112, 101, 99, 116], [118, 105, 97]]
def keptF (l : List UInt8) : Bool := keptL.contains (fold l)
def hasF (fs : List FD) (name part : List UInt8) : Bool := (listF fs name).any (fun p => same p part)
def hopF (fs : List FD) (n : List UInt8) : Bool := keptF n || (Lib.hasPrefix (fold n) sOwn || hasF fs sConn n)
def onwardF (fs : List FD) : List FD := fs.filter (fun f => !hopF fs f.1)
def withoutF (fs : List FD) (names : List (List UInt8)) : List FD := fs.filter (fun f => !names.any (fun n => same n f.1))
def goneF (set : List FD) (drop : List (List UInt8)) : List (List UInt8) := drop ++ set.map (·.1)
def bodied (m : List UInt8) (n : Nat) : Bool := decide (0 < n) || (m == sPost || (m == sPut || m == sPatch))
def scrubF (m : List UInt8) (fs : List FD) (n : Nat) (set : List FD) (drop : List (List UInt8)) (host : List UInt8) : List FD :=
  ((sHost, host) :: withoutF (onwardF fs) (goneF set drop)) ++ set ++ (if bodied m n then [(sCL, Lib.decDigits n)] else [])

theorem same_iff (a b : List UInt8) : same a b = true ↔ fold a = fold b := by
  unfold same
  constructor
  · intro h
    simp only [Bool.and_eq_true, beq_iff_eq] at h
    exact h.2
  · intro h
    have h2 := congrArg List.length h
    rw [fold_len, fold_len] at h2
    simp [h, h2]
theorem same_self (a : List UInt8) : same a a = true := (same_iff a a).2 rfl
theorem kept_same {a b : List UInt8} (h : same a b = true) : keptF a = keptF b := by
  unfold keptF
  rw [(same_iff a b).1 h]
theorem kept_conn : keptF sConn = true := by decide
theorem not_conn {a : List UInt8} (h : keptF a = false) : same a sConn = false := by
  cases hs : same a sConn
  · rfl
  · rw [kept_same hs, kept_conn] at h; cases h
theorem list_none (fs : List FD) (name : List UInt8) (h : ∀ f ∈ fs, same f.1 name = false) : listF fs name = [] := by
  unfold listF getF
  rw [List.filter_eq_nil_iff.2 (fun f hf => by rw [h f hf]; simp)]
  rfl
theorem list_app (a b : List FD) (name : List UInt8) : listF (a ++ b) name = listF a name ++ listF b name := by
  unfold listF getF
  rw [List.filter_append, List.map_append, List.flatMap_append]
theorem has_app (a b : List FD) (name part : List UInt8) : hasF (a ++ b) name part = (hasF a name part || hasF b name part) := by
  unfold hasF
  rw [list_app, List.any_append]

/-- What is scrubbed stays. -/
theorem scrub_twice (m : List UInt8) (fs : List FD) (n : Nat) (set : List FD) (drop : List (List UInt8)) (host : List UInt8) (hset : ∀ f ∈ set, keptF f.1 = false) :
    scrubF m (scrubF m fs n set drop host) n set drop host = scrubF m fs n set drop host := by
  have hW : ∀ f ∈ withoutF (onwardF fs) (goneF set drop), keptF f.1 = false ∧ Lib.hasPrefix (fold f.1) sOwn = false ∧ (goneF set drop).any (fun n => same n f.1) = false := by
    intro f hf
    unfold withoutF onwardF at hf
    obtain ⟨h1, h2⟩ := List.mem_filter.1 hf
    obtain ⟨_, h3⟩ := List.mem_filter.1 h1
    unfold hopF at h3
    simp only [Bool.not_eq_true', Bool.or_eq_false_iff] at h2 h3
    exact ⟨h3.1, h3.2.1, h2⟩
  have hcl : ∀ f ∈ (if bodied m n then [(sCL, Lib.decDigits n)] else [] : List FD), f.1 = sCL := by
    intro f hf
    split at hf
    · rw [List.mem_singleton.1 hf]
    · cases hf
  have hno : listF (scrubF m fs n set drop host) sConn = [] := by
    refine list_none _ _ (fun f hf => ?_)
    unfold scrubF at hf
    rcases List.mem_append.1 hf with hf | hf
    · rcases List.mem_append.1 hf with hf | hf
      · rcases List.mem_cons.1 hf with rfl | hf
        · show same sHost sConn = false
          decide
        · exact not_conn (hW f hf).1
      · exact not_conn (hset f hf)
    · rw [hcl f hf]; decide
  have hop : ∀ x, hopF (scrubF m fs n set drop host) x = (keptF x || Lib.hasPrefix (fold x) sOwn) := by
    intro x
    unfold hopF hasF
    rw [hno]
    simp
  have key : withoutF (onwardF (scrubF m fs n set drop host)) (goneF set drop) = withoutF (onwardF fs) (goneF set drop) := by
    have hG : scrubF m fs n set drop host = (sHost, host) :: (withoutF (onwardF fs) (goneF set drop) ++ (set ++ (if bodied m n then [(sCL, Lib.decDigits n)] else []))) := by
      unfold scrubF
      simp
    have h1 : onwardF (scrubF m fs n set drop host) = withoutF (onwardF fs) (goneF set drop) ++ set.filter (fun f => !(keptF f.1 || Lib.hasPrefix (fold f.1) sOwn)) := by
      show (scrubF m fs n set drop host).filter (fun f => !hopF (scrubF m fs n set drop host) f.1) = _
      simp only [hop]
      rw [hG]
      rw [List.filter_cons_of_neg (by show ¬ (!(keptF sHost || Lib.hasPrefix (fold sHost) sOwn)) = true; rw [show keptF sHost = true by decide]; simp)]
      rw [List.filter_append, List.filter_append]
      rw [List.filter_eq_self.2 (fun f hf => by rw [(hW f hf).1, (hW f hf).2.1]; rfl)]
      rw [List.filter_eq_nil_iff (l := (if bodied m n then [(sCL, Lib.decDigits n)] else [] : List FD)) |>.2 (fun f hf => by rw [hcl f hf, show keptF sCL = true by decide]; simp), List.append_nil]
    rw [h1]
    have hq : ∀ f ∈ set, (goneF set drop).any (fun n => same n f.1) = true := by
      intro f hf
      refine List.any_eq_true.2 ⟨f.1, ?_, same_self _⟩
      unfold goneF
      exact List.mem_append_right _ (List.mem_map_of_mem hf)
    generalize withoutF (onwardF fs) (goneF set drop) = W at hW
    unfold withoutF
    rw [List.filter_append, List.filter_eq_self.2 (fun f hf => by rw [(hW f hf).2.2]; rfl), List.filter_eq_nil_iff (l := set.filter (fun f => !(keptF f.1 || Lib.hasPrefix (fold f.1) sOwn))) |>.2 (fun f hf => by rw [hq f (List.mem_filter.1 hf).1]; simp), List.append_nil]
  have e : ∀ gs : List FD, scrubF m gs n set drop host = ((sHost, host) :: withoutF (onwardF gs) (goneF set drop)) ++ set ++ (if bodied m n then [(sCL, Lib.decDigits n)] else []) := fun _ => rfl
  rw [e (scrubF m fs n set drop host), key, ← e fs]

/-- The fields that are put into a request. -/
def moreL : List (List FD) := [[([75, 101, 101, 112, 45, 65, 108, 105, 118, 101], [53])], [([116, 69], [116, 114, 97, 105, 108, 101, 114, 115])], [([85, 112, 103, 114, 97, 100, 101], [120])], [([88, 45, 84, 111, 108, 108, 98, 97, 114, 45, 65], [49])], [(sConn, [122, 122, 45, 49]), ([90, 90, 45, 49], [113])], [([86, 105, 97], [118])], [([80, 114, 111, 120, 121, 45, 67, 111, 110, 110, 101, 99, 116, 105, 111, 110], [99, 108, 111, 115, 101])], [([84, 114, 97, 105, 108, 101, 114], [97])], [([69, 120, 112, 101, 99, 116], [49, 48, 48, 45, 99, 111, 110, 116, 105, 110, 117, 101])]]
/-- ZZ-1, zz-1, Zz-1, zZ-1 -/
def zzF (n : List UInt8) : Bool := n == [90, 90, 45, 49] || (n == [122, 122, 45, 49] || (n == [90, 122, 45, 49] || n == [122, 90, 45, 49]))

theorem onward_ins (a b add : List FD) (hadd : ∀ f ∈ add, hopF (a ++ (add ++ b)) f.1 = true) (hrest : ∀ f ∈ a ++ b, hasF (a ++ (add ++ b)) sConn f.1 = hasF (a ++ b) sConn f.1) :
    onwardF (a ++ (add ++ b)) = onwardF (a ++ b) := by
  have h : ∀ f ∈ a ++ b, (!hopF (a ++ (add ++ b)) f.1) = !hopF (a ++ b) f.1 := fun f hf => by
    unfold hopF
    rw [hrest f hf]
  unfold onwardF
  conv => lhs; rw [List.filter_append, List.filter_append]
  conv => rhs; rw [List.filter_append]
  rw [List.filter_eq_nil_iff (l := add) |>.2 (fun f hf => by rw [hadd f hf]; simp), List.nil_append]
  rw [List.filter_congr (fun f hf => h f (List.mem_append_left _ hf)), List.filter_congr (fun f hf => h f (List.mem_append_right _ hf))]

theorem lowC_z {c : UInt8} (h : lowC c = 122) : c = 122 ∨ c = 90 := by
  unfold lowC at h
  split at h
  · refine .inr ?_
    have := congrArg (· - 32) h
    simpa using this
  · exact .inl h
theorem lowC_id {c d : UInt8} (h : lowC c = d) (hd : d < 65) : c = d := by
  unfold lowC at h
  split at h
  · rename_i hc
    simp only [Bool.and_eq_true, decide_eq_true_eq] at hc
    exfalso
    have h1 := UInt8.le_iff_toNat_le.1 hc.1
    have h2 := UInt8.le_iff_toNat_le.1 hc.2
    have h3 := UInt8.lt_iff_toNat_lt.1 hd
    rw [← h, UInt8.toNat_add] at h3
    simp at h1 h2 h3
    omega
  · exact h
theorem zz_same {n : List UInt8} (h : zzF n = false) : same [122, 122, 45, 49] n = false := by
  cases hs : same [122, 122, 45, 49] n
  · rfl
  · exfalso
    have h1 := (same_iff _ _).1 hs
    rw [show fold [122, 122, 45, 49] = [122, 122, 45, 49] by decide] at h1
    have h2 := congrArg List.length h1
    rw [fold_len] at h2
    match n, h2 with
    | [a, b, c, d], _ =>
      simp only [fold, List.map_cons, List.map_nil, List.cons.injEq, and_true] at h1
      obtain ⟨ha, hb, hc, hd⟩ := h1
      have hc' := lowC_id hc.symm (by decide)
      have hd' := lowC_id hd.symm (by decide)
      subst hc' hd'
      rcases lowC_z ha.symm with rfl | rfl <;> rcases lowC_z hb.symm with rfl | rfl <;> exact absurd h (by decide)

theorem more_ins (a b add : List FD) (hadd : add ∈ moreL) (hz : ∀ f ∈ a ++ b, zzF f.1 = false) : onwardF (a ++ (add ++ b)) = onwardF (a ++ b) := by
  by_cases hc : add = [(sConn, [122, 122, 45, 49]), ([90, 90, 45, 49], [113])]
  · subst hc
    have hl : ∀ x, hasF (a ++ ([(sConn, [122, 122, 45, 49]), ([90, 90, 45, 49], [113])] ++ b)) sConn x = (hasF a sConn x || (same [122, 122, 45, 49] x || hasF b sConn x)) := by
      intro x
      rw [has_app, has_app]
      congr 2
      unfold hasF
      rw [show listF [(sConn, [122, 122, 45, 49]), ([90, 90, 45, 49], [113])] sConn = [[122, 122, 45, 49]] by decide]
      simp
    refine onward_ins a b _ (fun f hf => ?_) (fun f hf => ?_)
    · rcases List.mem_cons.1 hf with rfl | hf
      · unfold hopF
        rw [kept_conn]
        rfl
      · rcases List.mem_cons.1 hf with rfl | hf
        · unfold hopF
          rw [hl, show same [122, 122, 45, 49] [90, 90, 45, 49] = true by decide]
          simp
        · cases hf
    · rw [hl, zz_same (hz f hf), has_app]
      simp
  · have hall : ∀ add ∈ moreL, add ≠ [(sConn, [122, 122, 45, 49]), ([90, 90, 45, 49], [113])] → (∀ f ∈ add, same f.1 sConn = false ∧ (keptF f.1 || Lib.hasPrefix (fold f.1) sOwn) = true) := by decide
    have h := hall add hadd hc
    have hl : ∀ x, hasF (a ++ (add ++ b)) sConn x = hasF (a ++ b) sConn x := by
      intro x
      rw [has_app, has_app, has_app]
      congr 1
      have : hasF add sConn x = false := by
        unfold hasF
        rw [list_none add sConn (fun f hf => (h f hf).1)]
        rfl
      rw [this, Bool.false_or]
    refine onward_ins a b _ (fun f hf => ?_) (fun f _ => hl f.1)
    unfold hopF
    have := (h f hf).2
    cases hk : keptF f.1
    · rw [hk] at this
      rw [show Lib.hasPrefix (fold f.1) sOwn = true by simpa using this]
      rfl
    · rfl

/-- Hop-by-hop fields change nothing. -/
theorem scrub_more (m : List UInt8) (fs : List FD) (i n : Nat) (set : List FD) (drop : List (List UInt8)) (host : List UInt8) (add : List FD) (hadd : add ∈ moreL) (hz : ∀ f ∈ fs, zzF f.1 = false) :
    scrubF m (fs.take i ++ (add ++ fs.drop i)) n set drop host = scrubF m fs n set drop host := by
  unfold scrubF
  rw [more_ins _ _ _ hadd (by rw [List.take_append_drop]; exact hz), List.take_append_drop]
end Go.Proofs.YtpblgjadpfecgaaGreatDoor
/-
  Plain definitions: what is wrong with a configuration; which route fits.
-/
namespace Go.Proofs.YtpblgjadpfecgaaGreatDoor
open Go.RowKit

structure CF where
  ups : List (List UInt8 × List (List UInt8))
  routes : List (List UInt8 × List UInt8 × List UInt8)
  set : List FD
  drop : List (List UInt8)
  total : Int
  tries : Int
  fails : Int
  cool : Int
def cf0 : CF := ⟨[], [], [], [], 0, 0, 0, 0⟩

def nameC (c : UInt8) : Bool := (97 ≤ c && c ≤ 122) || ((48 ≤ c && c ≤ 57) || c == 45)
def nameF (l : List UInt8) : Bool := match l with
  | [] => false
  | c :: _ => decide (l.length ≤ 30) && ((97 ≤ c && c ≤ 122) && l.all nameC)
def pathF (l : List UInt8) : Bool := target l && (l.head? == some 47 && decide (l.length ≤ 100))
def aimBad (l : List UInt8) : Bool := !target l || decide (40 < l.length)
def upF (u : List UInt8 × List (List UInt8)) : Bool := nameF u.1 && !u.2.any aimBad
def setF (f : FD) : Bool := right f.1 f.2 && !keptF f.1
def dropF (n : List UInt8) : Bool := token n && (decide (n.length ≤ 100) && !keptF n)
def outside (n lo hi : Int) : Bool := decide (n < lo) || decide (hi < n)
def numsL (c : CF) : List (Int × Int × Int) := [(c.total, 1, 1048576), (c.tries, 0, 3), (c.fails, 1, 100), (c.cool, 0, 1048576)]
def numBad (x : Int × Int × Int) : Bool := outside x.1 x.2.1 x.2.2
def upMany (u : List UInt8 × List (List UInt8)) : Bool := decide (u.2.length < 1) || decide (8 < u.2.length)
def manyF (c : CF) : Bool := c.ups.any upMany || (decide (16 < c.ups.length) || (decide (32 < c.routes.length) || (decide (16 < c.set.length) || decide (16 < c.drop.length))))
def routeF (r : List UInt8 × List UInt8 × List UInt8) : Bool := pathF r.1 && pathF r.2.2
def rightF (c : CF) : Bool := c.ups.all upF && (c.routes.all routeF && (c.set.all setF && (c.drop.all dropF && !(numsL c).any numBad)))
/-- The keys of a set into which one more is put. -/
def addK (ks : List (List UInt8)) (s : List UInt8) : List (List UInt8) := if ks.contains s then ks else ks ++ [s]
def keysF (l : List (List UInt8)) : List (List UInt8) := l.foldl addK []
def lostF (c : CF) : Bool := c.routes.any (fun r => !(keysF (c.ups.map (·.1))).contains r.2.1)
def checkF (c : CF) : Int :=
  if manyF c then 3
  else if rightF c = false then 1
  else if (keysF (c.ups.map (·.1))).length < c.ups.length ∨ (keysF (c.routes.map (·.1))).length < c.routes.length then 72
  else if lostF c then 71 else 0

theorem check_right {c : CF} (h : checkF c = 0) : manyF c = false ∧ rightF c = true := by
  unfold checkF at h
  split at h
  · cases h
  split at h
  · cases h
  rename_i h1 h2
  exact ⟨by simpa using h1, by simpa using h2⟩
theorem check_set {c : CF} (h : checkF c = 0) : c.set.length ≤ 16 ∧ ∀ f ∈ c.set, keptF f.1 = false ∧ f.1.length ≤ 100 ∧ f.2.length ≤ 1000 := by
  obtain ⟨h1, h2⟩ := check_right h
  unfold manyF at h1
  unfold rightF at h2
  simp only [Bool.or_eq_false_iff, decide_eq_false_iff_not, Bool.and_eq_true, List.all_eq_true] at h1 h2
  refine ⟨by omega, fun f hf => ?_⟩
  have h3 := h2.2.2.1 f hf
  unfold setF right at h3
  simp only [Bool.and_eq_true, decide_eq_true_eq, Bool.not_eq_true'] at h3
  exact ⟨h3.2, h3.1.1, h3.1.2.2.1⟩
theorem check_drop {c : CF} (h : checkF c = 0) : c.drop.length ≤ 16 ∧ ∀ n ∈ c.drop, n.length ≤ 100 := by
  obtain ⟨h1, h2⟩ := check_right h
  unfold manyF at h1
  unfold rightF at h2
  simp only [Bool.or_eq_false_iff, decide_eq_false_iff_not, Bool.and_eq_true, List.all_eq_true] at h1 h2
  refine ⟨by omega, fun n hn => ?_⟩
  have h3 := h2.2.2.2.1 n hn
  unfold dropF at h3
  simp only [Bool.and_eq_true, decide_eq_true_eq] at h3
  exact h3.2.1

/-- Does a prefix fit a target? -/
def fitsF (p t : List UInt8) : Bool := Lib.hasPrefix (Lib.cut t [63]).1 p && ((Lib.trimPrefix (Lib.cut t [63]).1 p).isEmpty || (Lib.hasSuffix p [47] || (Lib.trimPrefix (Lib.cut t [63]).1 p).head? == some 47))

/-- The example's text: up u a, route /a u /n, set X y, total 1, tries 0, fails 1, cool 0. -/
def exText : List UInt8 := [117, 112, 32, 117, 32, 97, 10, 114, 111, 117, 116, 101, 32, 47, 97, 32, 117, 32, 47, 110, 10, 115, 101, 116, 32, 88, 32, 121, 10, 116, 111, 116, 97, 108, 32, 49, 10, 116, 114, 105, 101, 115, 32, 48, 10, 102, 97, 105, 108, 115, 32, 49, 10, 99, 111, 111, 108, 32, 48, 10]
def exConf : CF := ⟨[([117], [[97]])], [([47, 97], [117], [47, 110])], [([88], [121])], [], 1, 0, 1, 0⟩
theorem ex_check : checkF exConf = 0 := by decide
end Go.Proofs.YtpblgjadpfecgaaGreatDoor
