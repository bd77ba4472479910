/-
  A cell of a tenant in memory: where its parts lie, what they hold; what turns.
-/
import Derived.Test.YtpblgjadpfecgaaGreatDoorRn
import Derived.Test.YtpblgjadpfecgaaGreatDoorBk
import Derived.Test.YtpblgjadpfecgaaGreatDoorK1
import Derived.WalkArith
import Derived.Maps.OwnOps
import Derived.Maps.OwnSet
import Derived.Maps.Views
import Derived.OpenShut
import Derived.Lib.SlKeysI
set_option linter.unusedSimpArgs false
set_option linter.unusedVariables false
namespace Go.Proofs.YtpblgjadpfecgaaGreatDoor
open Go.RowKit Go.Maps

/-- What is done: its kind, its connection, its data's slice. -/
abbrev OV := Int × Int × Option Addr × Nat × Nat
def sT : ByteArray := ⟨#[116]⟩
def oV : List OV → List Value
  | [] => []
  | p :: t => .int .i64 p.1 :: .int .i64 p.2.1 :: .string sT :: .int .i64 0 :: .string ⟨#[]⟩ :: .slice p.2.2.1 p.2.2.2.1 p.2.2.2.2 :: oV t
theorem oV_len : ∀ (a : List OV), (oV a).length = a.length * 6
  | [] => rfl
  | p :: t => by simp [oV, oV_len t]; omega
theorem oV_app : ∀ (a b : List OV), oV (a ++ b) = oV a ++ oV b
  | [], _ => rfl
  | p :: t, b => by simp [oV, oV_app t b]
theorem oV_one : ∀ (l : List OV), ∀ u ∈ oV l, u.oneCell' = true
  | [], u, h => by cases h
  | p :: t, u, h => by
    simp only [oV, List.mem_cons] at h
    rcases h with rfl | rfl | rfl | rfl | rfl | rfl | h
    · rfl
    · rfl
    · rfl
    · rfl
    · rfl
    · rfl
    · exact oV_one t u h
theorem oV_at : ∀ (l : List OV) (i : Nat) (p : OV), l[i]? = some p → (oV l)[i * 6]? = some (.int .i64 p.1) ∧ (oV l)[i * 6 + 1]? = some (.int .i64 p.2.1) ∧ (oV l)[i * 6 + 2]? = some (.string sT) ∧ (oV l)[i * 6 + 3]? = some (.int .i64 0) ∧ (oV l)[i * 6 + 4]? = some (.string ⟨#[]⟩) ∧ (oV l)[i * 6 + 5]? = some (.slice p.2.2.1 p.2.2.2.1 p.2.2.2.2)
  | q :: t, 0, p, h => by
    simp at h
    subst h
    exact ⟨rfl, rfl, rfl, rfl, rfl, rfl⟩
  | q :: t, i + 1, p, h => by
    have := oV_at t i p (by simpa using h)
    rw [show (i + 1) * 6 = i * 6 + 1 + 1 + 1 + 1 + 1 + 1 by omega]
    simpa [oV] using this

/-- Where a cell's parts lie; what is fixed. -/
structure CellD where
  cb : Nat
  mb : Nat
  cm : Nat
  jm : Nat
  lm : Nat
  pb : Nat
  hb : Nat
  bb : Nat
  kb : Nat
  rb : Nat
  hk : Nat
  hc : Nat
  ka : Nat
  quota : Int
  burst : Int
  q : Int
/-- What turns: n connections, m of them in the map. -/
structure St where
  n : Nat
  m : Nat
  xb : Nat → Nat
  rg : Nat → Nat
  L : Nat → List Int
  M : Int
  H : Int
  P : Int
  busy : Nat → Bool
  win : Nat → Int
  seq : Int
  tok : Int
  cr : Int
  last : Int
  any : Bool
  OA : Option Addr
  oc : Nat
  os : List OV

def cellRow (d : CellD) (s : St) : Array Value := #[.string sT, .slice (some ⟨d.hk, 0, none⟩) 1 d.hc, .int .i64 d.quota, .int .i64 4, .int .i64 4, .int .i64 3, .int .i64 d.burst, .int .i64 d.q,
  .pointer (some ⟨d.mb, 0, none⟩), .map (some d.cm), .map (some d.jm), .map (some d.lm), .pointer (some ⟨d.pb, 0, none⟩), .pointer (some ⟨d.hb, 0, none⟩), .pointer (some ⟨d.bb, 0, none⟩), .pointer (some ⟨d.kb, 0, none⟩), .pointer (some ⟨d.rb, 0, none⟩),
  .slice none 0 0, .slice none 0 0, .slice none 0 0, .slice none 0 0, .int .i64 100, .int .i64 1, .int .i64 3, .int .i64 50, .int .i64 s.seq, .slice s.OA s.os.length s.oc]
def connRow (s : St) (k : Nat) : Array Value := #[.pointer (some ⟨s.rg (2 * k), 0, none⟩), .pointer (some ⟨s.rg (2 * k + 1), 0, none⟩), .int .i64 (s.win k), .bool (s.busy k), .bool false, .int .u32 0, .int .i32 0, .int .u32 0, .int .u32 0]

/-- How a pointer reads. -/
def cR : Value → Option (DataW Unit × List MemPlace)
  | .pointer (some ⟨b, o, none⟩) => some (.agg [.lit (.int .i64 b), .lit (.int .i64 o)], [])
  | .pointer none => some (.lit (.bool false), [])
  | _ => none
theorem lawK : Keyed Tryz.prog 3 := int_keyed Tryz.underlying3
theorem keyI {x : Int} (h0 : -9223372036854775808 ≤ x) (h1 : x ≤ 9223372036854775807) : keyOf Tryz.prog 3 (.int .i64 x) = some (.int .i64 x) := keyOf_int_mk Tryz.underlying3 (WalkArith.wf_i64 ⟨h0, h1⟩)
theorem isKeyI (x : Int) : WideAt.IsKeyLit (.int .i64 x) := by trivial
/-- The map in block b leads from 1, 2, .. n to the blocks xb 0, xb 1, .. -/
def MapC (w : World) (b n : Nat) (xb : Nat → Nat) : Prop :=
  ∃ D : DataW Unit, w.ownsMap Tryz.prog 3 cR b n D ∧ size D = n ∧ (∀ k : Nat, k < n → D.atKey (.int .i64 (k + 1)) (.lit (.bool false)) = .agg [.lit (.int .i64 (xb k)), .lit (.int .i64 (0 : Nat))]) ∧ ∀ x : Int, has D (.int .i64 x) = true ↔ ∃ k : Nat, k < n ∧ x = k + 1
theorem MapC.keep {S : Nat → Prop} {w w' : World} {b n : Nat} {xb : Nat → Nat} (h : MapC w b n xb) (o : Only S w w') (hs : ¬ S b) : MapC w' b n xb := by
  obtain ⟨D, ⟨es, clock, hb, r1⟩, r⟩ := h
  exact ⟨D, ⟨es, clock, o.keep hb hs, r1⟩, r⟩
theorem MapC.isM {w : World} {b n : Nat} {xb : Nat → Nat} (h : MapC w b n xb) : ∃ es c, w.heap[b]? = some (.map es c) := by
  obtain ⟨D, ⟨es, clock, hb, r1⟩, r⟩ := h
  exact ⟨es, clock, hb⟩
theorem MapC.lt {w : World} {b n : Nat} {xb : Nat → Nat} (h : MapC w b n xb) : b < w.heap.size := by
  obtain ⟨D, h, _⟩ := h
  exact h.lt
theorem MapC.ext {w : World} {b n : Nat} {xb xb' : Nat → Nat} (h : MapC w b n xb) (e : ∀ k, k < n → xb' k = xb k) : MapC w b n xb' := by
  obtain ⟨D, h1, h2, h3, h4⟩ := h
  exact ⟨D, h1, h2, fun k hk => by rw [e k hk]; exact h3 k hk, h4⟩
theorem mapC_of {w : World} {b : Nat} (hb : w.heap[b]? = some (.map #[] 0)) (xb : Nat → Nat) : MapC w b 0 xb := by
  obtain ⟨es, clock, hb', r1⟩ := World.ownsMap_made (H := Unit) w Tryz.prog 3 cR
  have e := (b_new w (.map #[] 0)).symm.trans hb'
  injection e with e
  injection e with e1 e2
  subst e1 e2
  refine ⟨.map [], ⟨_, _, hb, r1⟩, rfl, fun k hk => absurd hk (by omega), fun x => ?_⟩
  constructor
  · intro h; cases h
  · rintro ⟨k, hk, _⟩; omega

/-- A block of cells of a type. -/
def OfT (w : World) (g : Nat) (t : TypeId) : Prop := ∃ cs f, w.heap[g]? = some (.cells cs t f)
theorem OfT.ne {w : World} {g h : Nat} {t u : TypeId} (a : OfT w g t) (b : OfT w h u) (hne : t ≠ u) : g ≠ h := by
  rintro rfl
  obtain ⟨cs, f, a⟩ := a
  obtain ⟨cs', f', b⟩ := b
  rw [a] at b
  simp only [Option.some.injEq, Obj.cells.injEq] at b
  exact hne b.2.1
theorem OfT.nm {w : World} {g h : Nat} {t : TypeId} (a : OfT w g t) (b : ∃ es c, w.heap[h]? = some (.map es c)) : g ≠ h := by
  rintro rfl
  obtain ⟨cs, f, a⟩ := a
  obtain ⟨es, c, b⟩ := b
  rw [a] at b
  simp at b
theorem Own.ofT {w : World} {base : Nat} {e : TypeId} {k : Nat} {A : Option Addr} {n c : Nat} {xs : List Value} (h : Own w base e k A n c xs) {i : Nat} (hi : ab A i) : OfT w i e := by
  rcases h.2 with ⟨h0, _⟩ | ⟨g, cur, fz, h0, _, hg, _⟩
  · obtain ⟨b, hb, _⟩ := hi
    rw [h0] at hb; cases hb
  · obtain ⟨b, hb, rfl⟩ := hi
    rw [h0] at hb; cases hb
    exact ⟨_, _, hg⟩

theorem Gl.hold {S : Nat → Prop} {w w' : World} (h : Gl w) (o : Only S w w') (hS : ∀ i, i < 6 → ¬ S i) : Gl w' := by
  obtain ⟨m, hm⟩ := h.max
  have hs := h.size
  refine ⟨⟨m, (o.cell (by show 0 < _; omega) (hS _ (by show (0 : Nat) < 6; omega))).trans hm⟩, Nat.le_trans hs o.size, ?_, (o.cell (by show 5 < _; omega) (hS _ (by show (5 : Nat) < 6; omega))).trans h.tab⟩
  have hp := h.pow
  unfold Lib.TabIs World.var? at hp ⊢
  rw [pow_glob] at hp ⊢
  simp only [Option.bind_some] at hp ⊢
  rw [o.block 1 (by omega) (hS 1 (by omega))]
  exact hp

/-- The blocks that turn, but for the rings'. -/
def Yb (d : CellD) (s : St) (i : Nat) : Prop := i = d.cb ∨ i = d.bb ∨ i = d.rb ∨ i = d.cm ∨ (∃ k, k < s.n ∧ i = s.xb k) ∨ ab s.OA i
/-- Those that stay. -/
def Kb (d : CellD) (i : Nat) : Prop := i = d.kb ∨ i = d.jm ∨ i = d.hk ∨ i < 6
/-- All that turn. -/
def Zb (d : CellD) (s : St) (G : Nat → Prop) (i : Nat) : Prop := G i ∨ Yb d s i

structure CellIn (w : World) (d : CellD) (s : St) (G : Nat → Prop) : Prop where
  row : w.heap[d.cb]? = some (.cells (cellRow d s) 70 (0, 0))
  rs : Hid (Rg.Rs w d.mb (2 * s.n) s.rg s.L s.M s.H s.P G)
  con : ∀ k, k < s.n → w.heap[s.xb k]? = some (.cells (connRow s k) 136 (0, 0))
  inj : ∀ j k, j < s.n → k < s.n → s.xb j = s.xb k → j = k
  map : MapC w d.cm s.m s.xb
  mn : s.m ≤ s.n
  buck : Bk.Bk w d.bb 3 d.burst s.tok 0
  bok : Bk.Ok 3 d.burst s.tok 0
  rob : w.heap[d.rb]? = some (.cells #[.int .i64 d.q, .int .i64 s.cr, .int .i64 s.last, .bool s.any] 120 (0, 0))
  clk : w.heap[d.kb]? = some (.cells #[.int .i64 0, .slice none 0 0, .map (some d.ka)] 118 (0, 0))
  job : w.heap[d.jm]? = some (.map #[] 0)
  jc : d.jm ≠ d.cm
  host : ∃ cs f, w.heap[d.hk]? = some (.cells cs 9 f) ∧ cs[0]? = some (.string ⟨#[104]⟩)
  hc1 : 1 ≤ d.hc
  nG : ∀ i, G i → ¬ Yb d s i ∧ ¬ Kb d i
  lo : ∀ i, Yb d s i → 6 ≤ i
  gl : Gl w
  outs : Own w 0 40 6 s.OA s.os.length s.oc (oV s.os)

section
variable {w w' : World} {d : CellD} {s : St} {G : Nat → Prop}
theorem CellIn.t1 (h : CellIn w d s G) : OfT w d.cb 70 := ⟨_, _, h.row⟩
theorem CellIn.t2 (h : CellIn w d s G) {k : Nat} (hk : k < s.n) : OfT w (s.xb k) 136 := ⟨_, _, h.con k hk⟩
theorem CellIn.t3 (h : CellIn w d s G) : OfT w d.bb 113 := ⟨_, _, h.buck⟩
theorem CellIn.t4 (h : CellIn w d s G) : OfT w d.rb 120 := ⟨_, _, h.rob⟩
theorem CellIn.t5 (h : CellIn w d s G) : OfT w d.kb 118 := ⟨_, _, h.clk⟩
theorem CellIn.t6 (h : CellIn w d s G) : OfT w d.hk 9 := by obtain ⟨cs, f, h1, _⟩ := h.host; exact ⟨_, _, h1⟩
theorem CellIn.t7 (h : CellIn w d s G) {i : Nat} (hi : ab s.OA i) : OfT w i 40 := h.outs.ofT hi
theorem CellIn.t8 (h : CellIn w d s G) : ∃ es c, w.heap[d.cm]? = some (.map es c) := h.map.isM
theorem CellIn.t9 (h : CellIn w d s G) : ∃ es c, w.heap[d.jm]? = some (.map es c) := ⟨_, _, h.job⟩
theorem CellIn.Zlt (h : CellIn w d s G) : ∀ i, Zb d s G i → i < w.heap.size := by
  rintro i (hi | rfl | rfl | rfl | rfl | ⟨k, hk, rfl⟩ | hi)
  · exact h.rs.out.lt i hi
  · exact b_lt h.row
  · exact b_lt h.buck
  · exact b_lt h.rob
  · exact h.map.lt
  · exact b_lt (h.con k hk)
  · exact (h.outs.blk i hi).2
theorem CellIn.Klt (h : CellIn w d s G) : ∀ i, Kb d i → i < w.heap.size := by
  rintro i (rfl | rfl | rfl | hi)
  · exact b_lt h.clk
  · exact b_lt h.job
  · obtain ⟨cs, f, h1, _⟩ := h.host; exact b_lt h1
  · have := h.gl.size; omega
/-- Nothing of a cell's has turned. -/
theorem CellIn.keep {S : Nat → Prop} (h : CellIn w d s G) (o : Only S w w') (hz : ∀ i, Zb d s G i → ¬ S i) (hk : ∀ i, Kb d i → ¬ S i) : CellIn w' d s G where
  row := o.keep h.row (hz _ (.inr (.inl rfl)))
  rs := hid (h.rs.out.keep o (fun i hi => hz i (.inl hi)))
  con := fun k hk' => o.keep (h.con k hk') (hz _ (.inr (.inr (.inr (.inr (.inr (.inl ⟨k, hk', rfl⟩)))))))
  inj := h.inj
  map := h.map.keep o (hz _ (.inr (.inr (.inr (.inr (.inl rfl))))))
  mn := h.mn
  buck := h.buck.keep o (hz _ (.inr (.inr (.inl rfl))))
  bok := h.bok
  rob := o.keep h.rob (hz _ (.inr (.inr (.inr (.inl rfl)))))
  clk := o.keep h.clk (hk _ (.inl rfl))
  job := o.keep h.job (hk _ (.inr (.inl rfl)))
  jc := h.jc
  host := by
    obtain ⟨cs, f, h1, h2⟩ := h.host
    exact ⟨cs, f, o.keep h1 (hk _ (.inr (.inr (.inl rfl)))), h2⟩
  hc1 := h.hc1
  nG := h.nG
  lo := h.lo
  gl := h.gl.hold o (fun i hi => hk i (.inr (.inr (.inr hi))))
  outs := h.outs.keep o (fun i hi => hz i (.inr (.inr (.inr (.inr (.inr (.inr hi)))))))
theorem CellIn.same {S : Nat → Prop} (h : CellIn w d s G) (o : Only S w w') (hs : ∀ i, S i → w.heap.size ≤ i) : CellIn w' d s G :=
  h.keep o (fun i hi hS => by have := h.Zlt i hi; have := hs i hS; omega) (fun i hi hS => by have := h.Klt i hi; have := hs i hS; omega)

/-- The rings have turned. -/
theorem CellIn.rings {L' : Nat → List Int} {H' P' : Int} {G' : Nat → Prop} (h : CellIn w d s G) (hr : Hid (Rg.Rs w' d.mb (2 * s.n) s.rg L' s.M H' P' G')) (o : Only G w w') (hG : ∀ i, G' i → G i ∨ w.heap.size ≤ i) : CellIn w' d { s with L := L', H := H', P := P' } G' := by
  have nY : ∀ i, Yb d s i → ¬ G i := fun i hi hg => (h.nG i hg).1 hi
  have nK : ∀ i, Kb d i → ¬ G i := fun i hi hg => (h.nG i hg).2 hi
  exact {
    row := o.keep h.row (nY _ (.inl rfl))
    rs := hr
    con := fun k hk' => o.keep (h.con k hk') (nY _ (.inr (.inr (.inr (.inr (.inl ⟨k, hk', rfl⟩))))))
    inj := h.inj
    map := h.map.keep o (nY _ (.inr (.inr (.inr (.inl rfl)))))
    mn := h.mn
    buck := h.buck.keep o (nY _ (.inr (.inl rfl)))
    bok := h.bok
    rob := o.keep h.rob (nY _ (.inr (.inr (.inl rfl))))
    clk := o.keep h.clk (nK _ (.inl rfl))
    job := o.keep h.job (nK _ (.inr (.inl rfl)))
    jc := h.jc
    host := by
      obtain ⟨cs, f, h1, h2⟩ := h.host
      exact ⟨cs, f, o.keep h1 (nK _ (.inr (.inr (.inl rfl)))), h2⟩
    hc1 := h.hc1
    nG := fun i hi => by
      rcases hG i hi with hi | hi
      · exact h.nG i hi
      · exact ⟨fun hy => by have := h.Zlt i (.inr hy); omega, fun hk => by have := h.Klt i hk; omega⟩
    lo := h.lo
    gl := h.gl.hold o (fun i hi => nK i (.inr (.inr (.inr hi))))
    outs := h.outs.keep o (fun i hi => nY i (.inr (.inr (.inr (.inr (.inr hi)))))) }
/-- A connection's row has turned. -/
theorem CellIn.conn {busy' : Nat → Bool} {win' : Nat → Int} {k : Nat} (h : CellIn w d s G) (hk : k < s.n) (o : Only (· = s.xb k) w w') (e : ∀ j, j ≠ k → busy' j = s.busy j ∧ win' j = s.win j)
    (hr : w'.heap[s.xb k]? = some (.cells (connRow { s with busy := busy', win := win' } k) 136 (0, 0))) : CellIn w' d { s with busy := busy', win := win' } G where
  row := o.keep h.row (h.t1.ne (h.t2 hk) (by decide))
  rs := hid (h.rs.out.keep o (fun i hi e => (h.nG i hi).1 (.inr (.inr (.inr (.inr (.inl ⟨k, hk, e⟩)))))))
  con := fun j hj => by
    rcases Nat.decEq j k with hne | rfl
    · have := o.keep (h.con j hj) (fun e => hne (h.inj j k hj hk e))
      unfold connRow at this ⊢
      simp only [(e j hne).1, (e j hne).2]
      exact this
    · exact hr
  inj := h.inj
  map := h.map.keep o (fun e => (h.t2 hk).nm h.t8 e.symm)
  mn := h.mn
  buck := h.buck.keep o (h.t3.ne (h.t2 hk) (by decide))
  bok := h.bok
  rob := o.keep h.rob (h.t4.ne (h.t2 hk) (by decide))
  clk := o.keep h.clk (h.t5.ne (h.t2 hk) (by decide))
  job := o.keep h.job (fun e => (h.t2 hk).nm h.t9 e.symm)
  jc := h.jc
  host := by
    obtain ⟨cs, f, h1, h2⟩ := h.host
    exact ⟨cs, f, o.keep h1 (h.t6.ne (h.t2 hk) (by decide)), h2⟩
  hc1 := h.hc1
  nG := h.nG
  lo := h.lo
  gl := h.gl.hold o (fun i hi e => by have := h.lo i (.inr (.inr (.inr (.inr (.inl ⟨k, hk, e⟩))))); omega)
  outs := h.outs.keep o (fun i hi => (h.t7 hi).ne (h.t2 hk) (by decide))
/-- The cell's own row has turned: what is told, the count of records. -/
theorem CellIn.own {seq' : Int} {OA' : Option Addr} {oc' : Nat} {os' : List OV} (h : CellIn w d s G) (o : Only (· = d.cb) w w')
    (hr : w'.heap[d.cb]? = some (.cells (cellRow d { s with seq := seq', OA := OA', oc := oc', os := os' }) 70 (0, 0))) (hO : Own w' 0 40 6 OA' os'.length oc' (oV os')) (hA : ∀ i, ab OA' i → ¬ G i) (hL : ∀ i, ab OA' i → 6 ≤ i) : CellIn w' d { s with seq := seq', OA := OA', oc := oc', os := os' } G where
  row := hr
  rs := hid (h.rs.out.keep o (fun i hi e => (h.nG i hi).1 (.inl e)))
  con := fun k hk => o.keep (h.con k hk) ((h.t2 hk).ne h.t1 (by decide))
  inj := h.inj
  map := h.map.keep o (fun e => h.t1.nm h.t8 e.symm)
  mn := h.mn
  buck := h.buck.keep o (h.t3.ne h.t1 (by decide))
  bok := h.bok
  rob := o.keep h.rob (h.t4.ne h.t1 (by decide))
  clk := o.keep h.clk (h.t5.ne h.t1 (by decide))
  job := o.keep h.job (fun e => h.t1.nm h.t9 e.symm)
  jc := h.jc
  host := by
    obtain ⟨cs, f, h1, h2⟩ := h.host
    exact ⟨cs, f, o.keep h1 (h.t6.ne h.t1 (by decide)), h2⟩
  hc1 := h.hc1
  nG := fun i hi => ⟨fun hy => by
    rcases hy with hy | hy | hy | hy | hy | hy
    · exact (h.nG i hi).1 (.inl hy)
    · exact (h.nG i hi).1 (.inr (.inl hy))
    · exact (h.nG i hi).1 (.inr (.inr (.inl hy)))
    · exact (h.nG i hi).1 (.inr (.inr (.inr (.inl hy))))
    · exact (h.nG i hi).1 (.inr (.inr (.inr (.inr (.inl hy)))))
    · exact hA i hy hi, (h.nG i hi).2⟩
  lo := fun i hy => by
    rcases hy with hy | hy | hy | hy | hy | hy
    · exact h.lo i (.inl hy)
    · exact h.lo i (.inr (.inl hy))
    · exact h.lo i (.inr (.inr (.inl hy)))
    · exact h.lo i (.inr (.inr (.inr (.inl hy))))
    · exact h.lo i (.inr (.inr (.inr (.inr (.inl hy)))))
    · exact hL i hy
  gl := h.gl.hold o (fun i hi e => by have := h.lo i (.inl e); omega)
  outs := hO
/-- The bucket has turned. -/
theorem CellIn.bucket {tok' : Int} (h : CellIn w d s G) (o : Only (· = d.bb) w w') (hr : Bk.Bk w' d.bb 3 d.burst tok' 0) (ok : Bk.Ok 3 d.burst tok' 0) : CellIn w' d { s with tok := tok' } G where
  row := o.keep h.row (h.t1.ne h.t3 (by decide))
  rs := hid (h.rs.out.keep o (fun i hi e => (h.nG i hi).1 (.inr (.inl e))))
  con := fun k hk => o.keep (h.con k hk) ((h.t2 hk).ne h.t3 (by decide))
  inj := h.inj
  map := h.map.keep o (fun e => h.t3.nm h.t8 e.symm)
  mn := h.mn
  buck := hr
  bok := ok
  rob := o.keep h.rob (h.t4.ne h.t3 (by decide))
  clk := o.keep h.clk (h.t5.ne h.t3 (by decide))
  job := o.keep h.job (fun e => h.t3.nm h.t9 e.symm)
  jc := h.jc
  host := by
    obtain ⟨cs, f, h1, h2⟩ := h.host
    exact ⟨cs, f, o.keep h1 (h.t6.ne h.t3 (by decide)), h2⟩
  hc1 := h.hc1
  nG := h.nG
  lo := h.lo
  gl := h.gl.hold o (fun i hi e => by have := h.lo i (.inr (.inl e)); omega)
  outs := h.outs.keep o (fun i hi => (h.t7 hi).ne h.t3 (by decide))
/-- The robin has turned. -/
theorem CellIn.robin {cr' last' : Int} {any' : Bool} (h : CellIn w d s G) (o : Only (· = d.rb) w w') (hr : w'.heap[d.rb]? = some (.cells #[.int .i64 d.q, .int .i64 cr', .int .i64 last', .bool any'] 120 (0, 0))) : CellIn w' d { s with cr := cr', last := last', any := any' } G where
  row := o.keep h.row (h.t1.ne h.t4 (by decide))
  rs := hid (h.rs.out.keep o (fun i hi e => (h.nG i hi).1 (.inr (.inr (.inl e)))))
  con := fun k hk => o.keep (h.con k hk) ((h.t2 hk).ne h.t4 (by decide))
  inj := h.inj
  map := h.map.keep o (fun e => h.t4.nm h.t8 e.symm)
  mn := h.mn
  buck := h.buck.keep o (h.t3.ne h.t4 (by decide))
  bok := h.bok
  rob := hr
  clk := o.keep h.clk (h.t5.ne h.t4 (by decide))
  job := o.keep h.job (fun e => h.t4.nm h.t9 e.symm)
  jc := h.jc
  host := by
    obtain ⟨cs, f, h1, h2⟩ := h.host
    exact ⟨cs, f, o.keep h1 (h.t6.ne h.t4 (by decide)), h2⟩
  hc1 := h.hc1
  nG := h.nG
  lo := h.lo
  gl := h.gl.hold o (fun i hi e => by have := h.lo i (.inr (.inr (.inl e))); omega)
  outs := h.outs.keep o (fun i hi => (h.t7 hi).ne h.t4 (by decide))
/-- One more is in the map. -/
theorem CellIn.mapped (h : CellIn w d s G) (hm : s.m < s.n) (o : Only (· = d.cm) w w') (hr : MapC w' d.cm (s.m + 1) s.xb) : CellIn w' d { s with m := s.m + 1 } G where
  row := o.keep h.row (h.t1.nm h.t8)
  rs := hid (h.rs.out.keep o (fun i hi e => (h.nG i hi).1 (.inr (.inr (.inr (.inl e))))))
  con := fun k hk => o.keep (h.con k hk) ((h.t2 hk).nm h.t8)
  inj := h.inj
  map := hr
  mn := hm
  buck := h.buck.keep o (h.t3.nm h.t8)
  bok := h.bok
  rob := o.keep h.rob (h.t4.nm h.t8)
  clk := o.keep h.clk (h.t5.nm h.t8)
  job := o.keep h.job h.jc
  jc := h.jc
  host := by
    obtain ⟨cs, f, h1, h2⟩ := h.host
    exact ⟨cs, f, o.keep h1 (h.t6.nm h.t8), h2⟩
  hc1 := h.hc1
  nG := h.nG
  lo := h.lo
  gl := h.gl.hold o (fun i hi e => by have := h.lo i (.inr (.inr (.inr (.inl e)))); omega)
  outs := h.outs.keep o (fun i hi => (h.t7 hi).nm h.t8)
/-- One more connection: its rings, its row. -/
theorem CellIn.more {xb' rg' : Nat → Nat} {L' : Nat → List Int} {busy' : Nat → Bool} {win' : Nat → Int} {G' : Nat → Prop} (h : CellIn w d s G) (o : Only (fun _ => False) w w') (hr : Hid (Rg.Rs w' d.mb (2 * (s.n + 1)) rg' L' s.M s.H s.P G'))
    (hG : ∀ i, G' i → G i ∨ (w.heap.size ≤ i ∧ i ≠ xb' s.n)) (hx : w.heap.size ≤ xb' s.n) (e : ∀ j, j < s.n → xb' j = s.xb j ∧ rg' (2 * j) = s.rg (2 * j) ∧ rg' (2 * j + 1) = s.rg (2 * j + 1) ∧ busy' j = s.busy j ∧ win' j = s.win j)
    (hc : w'.heap[xb' s.n]? = some (.cells (connRow { s with n := s.n + 1, xb := xb', rg := rg', L := L', busy := busy', win := win' } s.n) 136 (0, 0))) : CellIn w' d { s with n := s.n + 1, xb := xb', rg := rg', L := L', busy := busy', win := win' } G' where
  row := o.keep h.row (fun h => h)
  rs := hr
  con := fun k hk => by
    rcases Nat.decEq k s.n with hne | rfl
    · have hk' : k < s.n := by have : k < s.n + 1 := hk; omega
      have := o.keep (h.con k hk') (fun h => h)
      obtain ⟨e1, e2, e3, e4, e5⟩ := e k hk'
      unfold connRow at this ⊢
      simp only [e1, e2, e3, e4, e5]
      exact this
    · exact hc
  inj := fun j k hj hk hjk => by
    have hj : j < s.n + 1 := hj
    have hk : k < s.n + 1 := hk
    rcases Nat.decEq j s.n with hj' | rfl
    · rcases Nat.decEq k s.n with hk' | rfl
      · exact h.inj j k (by omega) (by omega) (by rw [← (e j (by omega)).1, ← (e k (by omega)).1]; exact hjk)
      · exfalso
        have h1 := b_lt (h.con j (by omega))
        have h2 : s.xb j = xb' s.n := by rw [← (e j (by omega)).1]; exact hjk
        omega
    · rcases Nat.decEq k s.n with hk' | hk'
      · exfalso
        have h1 := b_lt (h.con k (by omega))
        have h2 : xb' s.n = s.xb k := by rw [← (e k (by omega)).1]; exact hjk
        omega
      · exact hk'.symm
  map := (h.map.keep o (fun h => h)).ext (fun k hk => (e k (by have := h.mn; omega)).1)
  mn := Nat.le_succ_of_le h.mn
  buck := h.buck.keep o (fun h => h)
  bok := h.bok
  rob := o.keep h.rob (fun h => h)
  clk := o.keep h.clk (fun h => h)
  job := o.keep h.job (fun h => h)
  jc := h.jc
  host := by
    obtain ⟨cs, f, h1, h2⟩ := h.host
    exact ⟨cs, f, o.keep h1 (fun h => h), h2⟩
  hc1 := h.hc1
  nG := fun i hi => ⟨fun hy => by
    rcases hG i hi with hi | ⟨hi, hx'⟩
    · have hlt := h.rs.out.lt i hi
      rcases hy with hy | hy | hy | hy | ⟨k, hk, hy⟩ | hy
      · exact (h.nG i hi).1 (.inl hy)
      · exact (h.nG i hi).1 (.inr (.inl hy))
      · exact (h.nG i hi).1 (.inr (.inr (.inl hy)))
      · exact (h.nG i hi).1 (.inr (.inr (.inr (.inl hy))))
      · have hk : k < s.n + 1 := hk
        have hy : i = xb' k := hy
        rcases Nat.decEq k s.n with hne | rfl
        · exact (h.nG i hi).1 (.inr (.inr (.inr (.inr (.inl ⟨k, by omega, by rw [hy]; exact (e k (by omega)).1⟩)))))
        · omega
      · exact (h.nG i hi).1 (.inr (.inr (.inr (.inr (.inr hy)))))
    · rcases hy with hy | hy | hy | hy | ⟨k, hk, hy⟩ | hy
      · have := h.Zlt _ (.inr (.inl rfl)); have hy : i = d.cb := hy; omega
      · have := h.Zlt _ (.inr (.inr (.inl rfl))); have hy : i = d.bb := hy; omega
      · have := h.Zlt _ (.inr (.inr (.inr (.inl rfl)))); have hy : i = d.rb := hy; omega
      · have := h.Zlt _ (.inr (.inr (.inr (.inr (.inl rfl))))); have hy : i = d.cm := hy; omega
      · have hk : k < s.n + 1 := hk
        have hy : i = xb' k := hy
        rcases Nat.decEq k s.n with hne | rfl
        · have := b_lt (h.con k (by omega))
          have h2 := (e k (by omega)).1
          omega
        · exact hx' hy
      · have := (h.outs.blk i hy).2; omega, fun hk => by
    rcases hG i hi with hi | ⟨hi, _⟩
    · exact (h.nG i hi).2 hk
    · have := h.Klt i hk; omega⟩
  lo := fun i hy => by
    rcases hy with hy | hy | hy | hy | ⟨k, hk, hy⟩ | hy
    · exact h.lo i (.inl hy)
    · exact h.lo i (.inr (.inl hy))
    · exact h.lo i (.inr (.inr (.inl hy)))
    · exact h.lo i (.inr (.inr (.inr (.inl hy))))
    · have hk : k < s.n + 1 := hk
      have hy : i = xb' k := hy
      rcases Nat.decEq k s.n with hne | rfl
      · exact h.lo i (.inr (.inr (.inr (.inr (.inl ⟨k, by omega, by rw [hy]; exact (e k (by omega)).1⟩)))))
      · have := h.gl.size; omega
    · exact h.lo i (.inr (.inr (.inr (.inr (.inr hy)))))
  gl := h.gl.hold o (fun _ _ h => h)
  outs := h.outs.keep o (fun _ _ h => h)

/-- A cell has turned. -/
structure Turn (w w' : World) (d : CellD) (s s' : St) (G G' : Nat → Prop) : Prop where
  cell : CellIn w' d s' G'
  new : ∀ i, Zb d s' G' i → Zb d s G i ∨ w.heap.size ≤ i
  only : Only (Zb d s G) w w'
theorem Turn.trans {w1 w2 : World} {s1 s2 : St} {G1 G2 : Nat → Prop} (h : Turn w w1 d s s1 G G1) (k : Turn w1 w2 d s1 s2 G1 G2) : Turn w w2 d s s2 G G2 :=
  ⟨k.cell, fun i hi => (k.new i hi).elim (h.new i) (fun e => .inr (Nat.le_trans h.only.size e)), h.only.trans' k.only h.new⟩
theorem Turn.refl (h : CellIn w d s G) : Turn w w d s s G G := ⟨h, fun _ h => .inl h, Only.refl _ _⟩
theorem Turn.same {S : Nat → Prop} (h : CellIn w d s G) (o : Only S w w') (hs : ∀ i, S i → w.heap.size ≤ i) : Turn w w' d s s G G := ⟨h.same o hs, fun _ h => .inl h, o.mono' (fun i hi => .inr (hs i hi))⟩
theorem Turn.quiet (h : CellIn w d s G) (o : Only (fun _ => False) w w') : Turn w w' d s s G G := Turn.same h o (fun _ h => h.elim)
theorem Turn.rings {L' : Nat → List Int} {H' P' : Int} {G' : Nat → Prop} (h : CellIn w d s G) (hr : Hid (Rg.Rs w' d.mb (2 * s.n) s.rg L' s.M H' P' G')) (o : Only G w w') (hG : ∀ i, G' i → G i ∨ w.heap.size ≤ i) : Turn w w' d s { s with L := L', H := H', P := P' } G G' :=
  ⟨h.rings hr o hG, fun i hi => hi.elim (fun hi => (hG i hi).elim (fun h => .inl (.inl h)) .inr) (fun hy => .inl (.inr hy)), o.mono (fun _ h => .inl h)⟩
theorem Turn.conn {busy' : Nat → Bool} {win' : Nat → Int} {k : Nat} (h : CellIn w d s G) (hk : k < s.n) (o : Only (· = s.xb k) w w') (e : ∀ j, j ≠ k → busy' j = s.busy j ∧ win' j = s.win j)
    (hr : w'.heap[s.xb k]? = some (.cells (connRow { s with busy := busy', win := win' } k) 136 (0, 0))) : Turn w w' d s { s with busy := busy', win := win' } G G :=
  ⟨h.conn hk o e hr, fun i hi => .inl hi, o.mono (fun i hi => .inr (.inr (.inr (.inr (.inr (.inl ⟨k, hk, hi⟩))))))⟩
theorem Turn.own {seq' : Int} {OA' : Option Addr} {oc' : Nat} {os' : List OV} (h : CellIn w d s G) (o : Only (· = d.cb) w w')
    (hr : w'.heap[d.cb]? = some (.cells (cellRow d { s with seq := seq', OA := OA', oc := oc', os := os' }) 70 (0, 0))) (hO : Own w' 0 40 6 OA' os'.length oc' (oV os')) (hA : ∀ i, ab OA' i → ab s.OA i) : Turn w w' d s { s with seq := seq', OA := OA', oc := oc', os := os' } G G := by
  refine ⟨h.own o hr hO (fun i hi hg => (h.nG i hg).1 (.inr (.inr (.inr (.inr (.inr (hA i hi))))))) (fun i hi => h.lo i (.inr (.inr (.inr (.inr (.inr (hA i hi))))))), fun i hi => .inl ?_, o.mono (fun i hi => .inr (.inl hi))⟩
  rcases hi with hi | hy | hy | hy | hy | hy | hy
  · exact .inl hi
  · exact .inr (.inl hy)
  · exact .inr (.inr (.inl hy))
  · exact .inr (.inr (.inr (.inl hy)))
  · exact .inr (.inr (.inr (.inr (.inl hy))))
  · exact .inr (.inr (.inr (.inr (.inr (.inl hy)))))
  · exact .inr (.inr (.inr (.inr (.inr (.inr (hA i hy))))))
theorem Turn.bucket {tok' : Int} (h : CellIn w d s G) (o : Only (· = d.bb) w w') (hr : Bk.Bk w' d.bb 3 d.burst tok' 0) (ok : Bk.Ok 3 d.burst tok' 0) : Turn w w' d s { s with tok := tok' } G G :=
  ⟨h.bucket o hr ok, fun i hi => .inl hi, o.mono (fun i hi => .inr (.inr (.inl hi)))⟩
theorem Turn.robin {cr' last' : Int} {any' : Bool} (h : CellIn w d s G) (o : Only (· = d.rb) w w') (hr : w'.heap[d.rb]? = some (.cells #[.int .i64 d.q, .int .i64 cr', .int .i64 last', .bool any'] 120 (0, 0))) : Turn w w' d s { s with cr := cr', last := last', any := any' } G G :=
  ⟨h.robin o hr, fun i hi => .inl hi, o.mono (fun i hi => .inr (.inr (.inr (.inl hi))))⟩
theorem Turn.mapped (h : CellIn w d s G) (hm : s.m < s.n) (o : Only (· = d.cm) w w') (hr : MapC w' d.cm (s.m + 1) s.xb) : Turn w w' d s { s with m := s.m + 1 } G G :=
  ⟨h.mapped hm o hr, fun i hi => .inl hi, o.mono (fun i hi => .inr (.inr (.inr (.inr (.inl hi)))))⟩
theorem Turn.more {xb' rg' : Nat → Nat} {L' : Nat → List Int} {busy' : Nat → Bool} {win' : Nat → Int} {G' : Nat → Prop} (h : CellIn w d s G) (o : Only (fun _ => False) w w') (hr : Hid (Rg.Rs w' d.mb (2 * (s.n + 1)) rg' L' s.M s.H s.P G'))
    (hG : ∀ i, G' i → G i ∨ (w.heap.size ≤ i ∧ i ≠ xb' s.n)) (hx : w.heap.size ≤ xb' s.n) (e : ∀ j, j < s.n → xb' j = s.xb j ∧ rg' (2 * j) = s.rg (2 * j) ∧ rg' (2 * j + 1) = s.rg (2 * j + 1) ∧ busy' j = s.busy j ∧ win' j = s.win j)
    (hc : w'.heap[xb' s.n]? = some (.cells (connRow { s with n := s.n + 1, xb := xb', rg := rg', L := L', busy := busy', win := win' } s.n) 136 (0, 0))) : Turn w w' d s { s with n := s.n + 1, xb := xb', rg := rg', L := L', busy := busy', win := win' } G G' := by
  refine ⟨h.more o hr hG hx e hc, fun i hi => ?_, o.mono (fun _ h => h.elim)⟩
  rcases hi with hi | hy | hy | hy | hy | ⟨k, hk, hy⟩ | hy
  · exact (hG i hi).elim (fun h => .inl (.inl h)) (fun h => .inr h.1)
  · exact .inl (.inr (.inl hy))
  · exact .inl (.inr (.inr (.inl hy)))
  · exact .inl (.inr (.inr (.inr (.inl hy))))
  · exact .inl (.inr (.inr (.inr (.inr (.inl hy)))))
  · have hk : k < s.n + 1 := hk
    have hy : i = xb' k := hy
    rcases Nat.decEq k s.n with hne | rfl
    · exact .inl (.inr (.inr (.inr (.inr (.inr (.inl ⟨k, by omega, by rw [hy]; exact (e k (by omega)).1⟩))))))
    · exact .inr (by omega)
  · exact .inl (.inr (.inr (.inr (.inr (.inr (.inr hy))))))

/-- Blocks of one's own turn beside. -/
theorem Turn.aside {w1 w2 : World} {s' : St} {G' S : Nat → Prop} (h : Turn w w1 d s s' G G') (o : Only S w1 w2) (hz : ∀ i, Zb d s' G' i → ¬ S i) (hk : ∀ i, Kb d i → ¬ S i) (hn : ∀ i, S i → w.heap.size ≤ i) : Turn w w2 d s s' G G' :=
  ⟨h.cell.keep o hz hk, h.new, h.only.trans' o (fun i hi => .inr (hn i hi))⟩
/-- One's own block, newer than the start, where nothing of the cell's is. -/
theorem Turn.mine {w1 w2 : World} {s' : St} {G' : Nat → Prop} {g : Nat} (h : Turn w w1 d s s' G G') (o : Only (· = g) w1 w2) (hz : ¬ Zb d s' G' g) (h0 : CellIn w d s G) (hn : w.heap.size ≤ g) : Turn w w2 d s s' G G' :=
  h.aside o (fun i hi e => hz (e ▸ hi)) (fun i hi e => by have := h0.Klt i hi; omega) (fun i e => by omega)
/-- What is told grows. -/
theorem Turn.out {w1 : World} {seq' : Int} {OA' : Option Addr} {oc' : Nat} {os' : List OV} (h : CellIn w d s G) (o : Only (ab s.OA) w w1) (o2 : Only (· = d.cb) w1 w') (hr : w'.heap[d.cb]? = some (.cells (cellRow d { s with seq := seq', OA := OA', oc := oc', os := os' }) 70 (0, 0)))
    (hO : Own w1 0 40 6 OA' os'.length oc' (oV os')) (hA : ∀ i, ab OA' i → ab s.OA i ∨ w.heap.size ≤ i) : Turn w w' d s { s with seq := seq', OA := OA', oc := oc', os := os' } G G := by
  have hne : ∀ i, ab OA' i → i ≠ d.cb := fun i hi => by
    rcases hA i hi with hi | hi
    · exact (h.t7 hi).ne h.t1 (by decide)
    · have := h.Zlt _ (.inr (.inl rfl)); omega
  have oo : Only (fun i => ab s.OA i ∨ i = d.cb) w w' := (o.mono (fun _ h => .inl h)).trans (o2.mono (fun _ h => .inr h))
  have hsz := h.gl.size
  refine ⟨?_, fun i hi => ?_, oo.mono (fun i hi => hi.elim (fun hi => .inr (.inr (.inr (.inr (.inr (.inr hi)))))) (fun hi => .inr (.inl hi)))⟩
  · exact {
      row := hr
      rs := hid (h.rs.out.keep oo (fun i hi e => e.elim (fun e => (h.nG i hi).1 (.inr (.inr (.inr (.inr (.inr e)))))) (fun e => (h.nG i hi).1 (.inl e))))
      con := fun k hk => oo.keep (h.con k hk) (fun e => e.elim (fun e => (h.t7 e).ne (h.t2 hk) (by decide) rfl) (fun e => (h.t2 hk).ne h.t1 (by decide) e))
      inj := h.inj
      map := h.map.keep oo (fun e => e.elim (fun e => (h.t7 e).nm h.t8 rfl) (fun e => h.t1.nm h.t8 e.symm))
      mn := h.mn
      buck := h.buck.keep oo (fun e => e.elim (fun e => (h.t7 e).ne h.t3 (by decide) rfl) (fun e => h.t3.ne h.t1 (by decide) e))
      bok := h.bok
      rob := oo.keep h.rob (fun e => e.elim (fun e => (h.t7 e).ne h.t4 (by decide) rfl) (fun e => h.t4.ne h.t1 (by decide) e))
      clk := oo.keep h.clk (fun e => e.elim (fun e => (h.t7 e).ne h.t5 (by decide) rfl) (fun e => h.t5.ne h.t1 (by decide) e))
      job := oo.keep h.job (fun e => e.elim (fun e => (h.t7 e).nm h.t9 rfl) (fun e => h.t1.nm h.t9 e.symm))
      jc := h.jc
      host := by
        obtain ⟨cs, f, h1, h2⟩ := h.host
        exact ⟨cs, f, oo.keep h1 (fun e => e.elim (fun e => (h.t7 e).ne h.t6 (by decide) rfl) (fun e => h.t6.ne h.t1 (by decide) e)), h2⟩
      hc1 := h.hc1
      nG := fun i hi => ⟨fun hy => by
        rcases hy with hy | hy | hy | hy | hy | hy
        · exact (h.nG i hi).1 (.inl hy)
        · exact (h.nG i hi).1 (.inr (.inl hy))
        · exact (h.nG i hi).1 (.inr (.inr (.inl hy)))
        · exact (h.nG i hi).1 (.inr (.inr (.inr (.inl hy))))
        · exact (h.nG i hi).1 (.inr (.inr (.inr (.inr (.inl hy)))))
        · rcases hA i hy with hy | hy
          · exact (h.nG i hi).1 (.inr (.inr (.inr (.inr (.inr hy)))))
          · have := h.rs.out.lt i hi; omega, (h.nG i hi).2⟩
      lo := fun i hy => by
        rcases hy with hy | hy | hy | hy | hy | hy
        · exact h.lo i (.inl hy)
        · exact h.lo i (.inr (.inl hy))
        · exact h.lo i (.inr (.inr (.inl hy)))
        · exact h.lo i (.inr (.inr (.inr (.inl hy))))
        · exact h.lo i (.inr (.inr (.inr (.inr (.inl hy)))))
        · rcases hA i hy with hy | hy
          · exact h.lo i (.inr (.inr (.inr (.inr (.inr hy)))))
          · omega
      gl := h.gl.hold oo (fun i hi e => e.elim (fun e => by have := h.lo i (.inr (.inr (.inr (.inr (.inr e))))); omega) (fun e => by have := h.lo i (.inl e); omega))
      outs := hO.keep o2 hne }
  · rcases hi with hi | hy | hy | hy | hy | hy | hy
    · exact .inl (.inl hi)
    · exact .inl (.inr (.inl hy))
    · exact .inl (.inr (.inr (.inl hy)))
    · exact .inl (.inr (.inr (.inr (.inl hy))))
    · exact .inl (.inr (.inr (.inr (.inr (.inl hy)))))
    · exact .inl (.inr (.inr (.inr (.inr (.inr (.inl hy))))))
    · exact (hA i hy).elim (fun h => .inl (.inr (.inr (.inr (.inr (.inr (.inr h))))))) .inr

/-- The data of something that is done: its bytes, where nothing turns. -/
def DatOk (w : World) (Z : Nat → Prop) (o : OV) (bs : List UInt8) : Prop := Bs w o.2.2.1 o.2.2.2.1 o.2.2.2.2 bs ∧ ∀ i, ab o.2.2.1 i → ¬ Z i ∧ i < w.heap.size
theorem DatOk.turn {s' : St} {G' : Nat → Prop} {o : OV} {bs : List UInt8} (h : DatOk w (Zb d s G) o bs) (t : Turn w w' d s s' G G') : DatOk w' (Zb d s' G') o bs :=
  ⟨h.1.keep t.only (fun i hi => (h.2 i hi).1), fun i hi => ⟨fun hz => by
    have hh := h.2 i hi
    rcases t.new i hz with hz | hz
    · exact hh.1 hz
    · omega, Nat.lt_of_lt_of_le (h.2 i hi).2 t.only.size⟩⟩
end
end Go.Proofs.YtpblgjadpfecgaaGreatDoor
