/-
  Maps of texts to the addresses of numbers; take of the package conf, its numbers.
-/
import Derived.Test.YtafljoiblfhioaaGreatDoorSac
namespace Go.Proofs.YtafljoiblfhioaaGreatDoor
open Go.RowKit Go.Maps

/-- How a pointer to a number reads. -/
def pR : Value → Option (DataW Unit × List MemPlace)
  | .pointer (some ⟨b, o, none⟩) => some (.agg [.lit (.int .i64 b), .lit (.int .i64 o)], [])
  | .pointer none => some (.lit (.bool false), [])
  | _ => none
theorem zeroP (w : World) : (zeroValue 101).run Tryz.prog w = .ok (.pointer none) w := by kernel_rfl
/-- The map in block m holds these texts, each with the address of a cell of block g. -/
def MapP (w : World) (m n g : Nat) (f : List UInt8 → Option Nat) : Prop :=
  ∃ D : DataW Unit, w.ownsMap Tryz.prog 9 pR m n D ∧ ∀ s o, f s = some o → D.atKey (.string s) (.lit (.bool false)) = .agg [.lit (.int .i64 g), .lit (.int .i64 o)]
theorem MapP.look {w : World} {m n g : Nat} {f : List UInt8 → Option Nat} (h : MapP w m n g f) {s : ByteArray} (hs : s.size ≤ 9223372036854775807) {o : Nat} (ho : f s.data.toList = some o) :
    (Instr.lookup 102 (.map (some m)) (.string s) false).run Tryz.prog w = .ok (.pointer (some ⟨g, o, none⟩)) w := by
  obtain ⟨D, h, r⟩ := h
  have hat := r _ o ho
  obtain ⟨v, ps, hrun, hv⟩ := h.lookup lawS Tryz.underlying102 (zeroP w) (show pR (.pointer none) = some (.lit (.bool false), []) from rfl) (keyS hs)
  rw [hrun]
  rw [hat] at hv
  unfold pR at hv
  split at hv
  · simp only [Option.some.injEq, Prod.mk.injEq, DataW.agg.injEq, List.cons.injEq, DataW.lit.injEq, Lit.int.injEq, true_and, and_true] at hv
    obtain ⟨⟨h1, h2⟩, _⟩ := hv
    rw [Int.ofNat_inj.1 h1, Int.ofNat_inj.1 h2]
  · simp at hv
  · cases hv
theorem mapP_new (w : World) (g : Nat) : MapP (w.alloc (.map #[] 0)) w.heap.size 0 g (fun _ => none) :=
  ⟨_, World.ownsMap_made w _ _ _, fun s o h => by cases h⟩
theorem MapP.keep {S : Nat → Prop} {w w' : World} {m n g : Nat} {f : List UInt8 → Option Nat} (h : MapP w m n g f) (o : Only S w w') (hs : ¬ S m) : MapP w' m n g f := by
  obtain ⟨D, ⟨es, clock, hb, r1⟩, r⟩ := h
  exact ⟨D, ⟨es, clock, o.keep hb hs, r1⟩, r⟩
/-- A text and its address are put into a map. -/
theorem ins_ex (m g off : Nat) (s : ByteArray) (hs : s.size ≤ 9223372036854775807) : ∃ F : World → World, ∀ W n f, MapP W m n g f → n < 1000 →
    (Instr.mapUpdate 102 (.map (some m)) (.string s) (.pointer (some ⟨g, off, none⟩))).run Tryz.prog W = .ok () (F W) ∧ MapP (F W) m (n + 1) g (fun x => if x = s.data.toList then some off else f x) ∧ Only (· = m) W (F W) := by
  refine ⟨fun W => match (Instr.mapUpdate 102 (.map (some m)) (.string s) (.pointer (some ⟨g, off, none⟩))).run Tryz.prog W with | .ok _ w' => w' | _ => W, fun W n f H hn => ?_⟩
  obtain ⟨D, h0, r⟩ := H
  obtain ⟨w', hrun, r1, r2⟩ := h0.update lawS Tryz.underlying102 (show n < maxLen by unfold maxLen; omega) (keyS hs) (show pR (.pointer (some ⟨g, off, none⟩)) = some (.agg [.lit (.int .i64 g), .lit (.int .i64 off)], []) from rfl)
  have hD : IsMap D := h0.isMap
  simp only [hrun, true_and]
  refine ⟨⟨_, r1, fun x o' hx => ?_⟩, only_grown r2⟩
  by_cases hj : x = s.data.toList
  · subst hj
    simp only [if_true, Option.some.injEq] at hx
    subst hx
    exact atKey_put_same hD (isKeyS _) _ _
  · simp only [if_neg hj] at hx
    have hne : (Lit.string x) ≠ (Lit.string s.data.toList) := fun e => hj (by injection e)
    rw [atKey_put_other hne]
    exact r x o' hx
/-- The map holds some texts, and not too many. -/
def GdM (m g j : Nat) (W : World) : Prop := ∃ f, MapP W m j g f
def kTotal : List UInt8 := [116, 111, 116, 97, 108]
def kTries : List UInt8 := [116, 114, 105, 101, 115]
def kFails : List UInt8 := [102, 97, 105, 108, 115]
def kCool : List UInt8 := [99, 111, 111, 108]
/-- All four are in. -/
def All4 (f : List UInt8 → Option Nat) : Prop := f kTotal = some 4 ∧ f kTries = some 5 ∧ f kFails = some 6 ∧ f kCool = some 7

set_option maxRecDepth 100000 in
set_option maxHeartbeats 1000000 in
theorem take_num (g : Nat) (a0 a1 a2 a3 a4 a5 a6 a7 : Value) (word rest : ByteArray) (n off : Nat) (w : World) (hG : Gl w) (hg : 6 ≤ g) (hrest : rest.size < 4294967281) (hn : number 10 18 rest.data.toList = ((n : Int), true)) (hn2 : B (Lib.decDigits n) = rest) (hn3 : n ≤ 1000000000000)
    (hword : (word.data.toList, off) ∈ [(kTotal, 4), (kTries, 5), (kFails, 6), (kCool, 7)])
    (hrow : w.heap[g]? = some (.cells #[a0, a1, a2, a3, a4, a5, a6, a7] 28 (0, 0))) :
    Calls Tryz.prog 29 #[.pointer (some ⟨g, 0, none⟩), .string word, .string rest] w fun e w' => e = .returned (.bool true) ∧ Only (fun i => i = g) w w' ∧
      w'.heap[g]? = some (.cells (#[a0, a1, a2, a3, a4, a5, a6, a7].setIfInBounds off (.int .i64 n)) 28 (0, 0)) := by
  have hl : word.data.toList ∈ [kTotal, kTries, kFails, kCool] := by
    simp only [List.mem_cons, Prod.mk.injEq, List.not_mem_nil, or_false] at hword ⊢
    rcases hword with h | h | h | h
    · exact .inl h.1
    · exact .inr (.inl h.1)
    · exact .inr (.inr (.inl h.1))
    · exact .inr (.inr (.inr h.1))
  have hne : ∀ z : List UInt8, z ∉ [kTotal, kTries, kFails, kCool] → (word.toList == z) = false := fun z hz => by
    rw [ByteArray.toList_eq, beq_eq_false_iff_ne]
    intro h
    exact hz (h ▸ hl)
  have h1 := hne [117, 112] (by decide)
  have h2 := hne [114, 111, 117, 116, 101] (by decide)
  have h3 := hne [115, 101, 116] (by decide)
  have h4 := hne [100, 114, 111, 112] (by decide)
  clear hne hl
  go_enter Tryz.func29, Tryz.ntmps29
  go_wp2_with fail
  refine (strSplit_any 32 rest hrest w hG).mono ?_
  rintro e w1 ⟨A, c, rfl, HP, O1⟩
  generalize splitC 32 rest.data.toList = sp at *
  clear HP
  go_wp2_with fail
  refine (decimal_any rest (by omega) w1).mono ?_
  rintro e w2 ⟨rfl, O2⟩
  rw [hn]
  have O := O1.trans O2
  have H2 := O.keep hrow (fun h => h)
  have hG2 := hG.same O
  clear hrow O1 O2 hG hn
  obtain ⟨c0, c1, c2, c3, c4, c5, c6, c7⟩ := cells8 H2
  go_upto_region 19 with (fail)
  go_cut [13] from 100 to 113 (fun v wc => v = .map (some w2.heap.size) ∧ Hid (∃ f, MapP wc w2.heap.size 4 g f ∧ All4 f) ∧ Only (fun _ => False) w2 wc)
  case first =>
    clear h1 h2 h3 h4 hword
    have hmm := @run_makeMap Tryz.prog
    obtain ⟨m, hm⟩ : ∃ m, w2.heap.size = m := ⟨_, rfl⟩
    have hM0 : MapP (w2.alloc (.map #[] 0)).drew m 0 g (fun _ => none) := by rw [← hm]; exact (mapP_new w2 g).keep (S := fun _ => False) (Only.refl _ _).drew (fun h => h)
    have hG0 : GdM m g 0 (w2.alloc (.map #[] 0)).drew := ⟨_, hM0⟩
    have OM0 : Only (fun _ => False) w2 (w2.alloc (.map #[] 0)).drew := ((Only.refl _ _).alloc _).drew
    obtain ⟨F0, hF0⟩ := ins_ex m g 4 ⟨#[116, 111, 116, 97, 108]⟩ (by decide)
    obtain ⟨F1, hF1⟩ := ins_ex m g 5 ⟨#[116, 114, 105, 101, 115]⟩ (by decide)
    obtain ⟨F2, hF2⟩ := ins_ex m g 6 ⟨#[102, 97, 105, 108, 115]⟩ (by decide)
    obtain ⟨F3, hF3⟩ := ins_ex m g 7 ⟨#[99, 111, 111, 108]⟩ (by decide)
    have e00 : ∀ W, GdM m g 0 W → (Instr.mapUpdate 102 (.map (some m)) (.string ⟨#[116, 111, 116, 97, 108]⟩) (.pointer (some ⟨g, 4, none⟩))).run Tryz.prog W = .ok () (F0 W) := fun W h => by obtain ⟨f, h⟩ := h; exact (hF0 W _ f h (by omega)).1
    have p00 : ∀ W, GdM m g 0 W → GdM m g 1 (F0 W) := fun W h => by obtain ⟨f, h⟩ := h; exact ⟨_, (hF0 W _ f h (by omega)).2.1⟩
    have e01 : ∀ W, GdM m g 1 W → (Instr.mapUpdate 102 (.map (some m)) (.string ⟨#[116, 111, 116, 97, 108]⟩) (.pointer (some ⟨g, 4, none⟩))).run Tryz.prog W = .ok () (F0 W) := fun W h => by obtain ⟨f, h⟩ := h; exact (hF0 W _ f h (by omega)).1
    have p01 : ∀ W, GdM m g 1 W → GdM m g 2 (F0 W) := fun W h => by obtain ⟨f, h⟩ := h; exact ⟨_, (hF0 W _ f h (by omega)).2.1⟩
    have e02 : ∀ W, GdM m g 2 W → (Instr.mapUpdate 102 (.map (some m)) (.string ⟨#[116, 111, 116, 97, 108]⟩) (.pointer (some ⟨g, 4, none⟩))).run Tryz.prog W = .ok () (F0 W) := fun W h => by obtain ⟨f, h⟩ := h; exact (hF0 W _ f h (by omega)).1
    have p02 : ∀ W, GdM m g 2 W → GdM m g 3 (F0 W) := fun W h => by obtain ⟨f, h⟩ := h; exact ⟨_, (hF0 W _ f h (by omega)).2.1⟩
    have e03 : ∀ W, GdM m g 3 W → (Instr.mapUpdate 102 (.map (some m)) (.string ⟨#[116, 111, 116, 97, 108]⟩) (.pointer (some ⟨g, 4, none⟩))).run Tryz.prog W = .ok () (F0 W) := fun W h => by obtain ⟨f, h⟩ := h; exact (hF0 W _ f h (by omega)).1
    have p03 : ∀ W, GdM m g 3 W → GdM m g 4 (F0 W) := fun W h => by obtain ⟨f, h⟩ := h; exact ⟨_, (hF0 W _ f h (by omega)).2.1⟩
    have e10 : ∀ W, GdM m g 0 W → (Instr.mapUpdate 102 (.map (some m)) (.string ⟨#[116, 114, 105, 101, 115]⟩) (.pointer (some ⟨g, 5, none⟩))).run Tryz.prog W = .ok () (F1 W) := fun W h => by obtain ⟨f, h⟩ := h; exact (hF1 W _ f h (by omega)).1
    have p10 : ∀ W, GdM m g 0 W → GdM m g 1 (F1 W) := fun W h => by obtain ⟨f, h⟩ := h; exact ⟨_, (hF1 W _ f h (by omega)).2.1⟩
    have e11 : ∀ W, GdM m g 1 W → (Instr.mapUpdate 102 (.map (some m)) (.string ⟨#[116, 114, 105, 101, 115]⟩) (.pointer (some ⟨g, 5, none⟩))).run Tryz.prog W = .ok () (F1 W) := fun W h => by obtain ⟨f, h⟩ := h; exact (hF1 W _ f h (by omega)).1
    have p11 : ∀ W, GdM m g 1 W → GdM m g 2 (F1 W) := fun W h => by obtain ⟨f, h⟩ := h; exact ⟨_, (hF1 W _ f h (by omega)).2.1⟩
    have e12 : ∀ W, GdM m g 2 W → (Instr.mapUpdate 102 (.map (some m)) (.string ⟨#[116, 114, 105, 101, 115]⟩) (.pointer (some ⟨g, 5, none⟩))).run Tryz.prog W = .ok () (F1 W) := fun W h => by obtain ⟨f, h⟩ := h; exact (hF1 W _ f h (by omega)).1
    have p12 : ∀ W, GdM m g 2 W → GdM m g 3 (F1 W) := fun W h => by obtain ⟨f, h⟩ := h; exact ⟨_, (hF1 W _ f h (by omega)).2.1⟩
    have e13 : ∀ W, GdM m g 3 W → (Instr.mapUpdate 102 (.map (some m)) (.string ⟨#[116, 114, 105, 101, 115]⟩) (.pointer (some ⟨g, 5, none⟩))).run Tryz.prog W = .ok () (F1 W) := fun W h => by obtain ⟨f, h⟩ := h; exact (hF1 W _ f h (by omega)).1
    have p13 : ∀ W, GdM m g 3 W → GdM m g 4 (F1 W) := fun W h => by obtain ⟨f, h⟩ := h; exact ⟨_, (hF1 W _ f h (by omega)).2.1⟩
    have e20 : ∀ W, GdM m g 0 W → (Instr.mapUpdate 102 (.map (some m)) (.string ⟨#[102, 97, 105, 108, 115]⟩) (.pointer (some ⟨g, 6, none⟩))).run Tryz.prog W = .ok () (F2 W) := fun W h => by obtain ⟨f, h⟩ := h; exact (hF2 W _ f h (by omega)).1
    have p20 : ∀ W, GdM m g 0 W → GdM m g 1 (F2 W) := fun W h => by obtain ⟨f, h⟩ := h; exact ⟨_, (hF2 W _ f h (by omega)).2.1⟩
    have e21 : ∀ W, GdM m g 1 W → (Instr.mapUpdate 102 (.map (some m)) (.string ⟨#[102, 97, 105, 108, 115]⟩) (.pointer (some ⟨g, 6, none⟩))).run Tryz.prog W = .ok () (F2 W) := fun W h => by obtain ⟨f, h⟩ := h; exact (hF2 W _ f h (by omega)).1
    have p21 : ∀ W, GdM m g 1 W → GdM m g 2 (F2 W) := fun W h => by obtain ⟨f, h⟩ := h; exact ⟨_, (hF2 W _ f h (by omega)).2.1⟩
    have e22 : ∀ W, GdM m g 2 W → (Instr.mapUpdate 102 (.map (some m)) (.string ⟨#[102, 97, 105, 108, 115]⟩) (.pointer (some ⟨g, 6, none⟩))).run Tryz.prog W = .ok () (F2 W) := fun W h => by obtain ⟨f, h⟩ := h; exact (hF2 W _ f h (by omega)).1
    have p22 : ∀ W, GdM m g 2 W → GdM m g 3 (F2 W) := fun W h => by obtain ⟨f, h⟩ := h; exact ⟨_, (hF2 W _ f h (by omega)).2.1⟩
    have e23 : ∀ W, GdM m g 3 W → (Instr.mapUpdate 102 (.map (some m)) (.string ⟨#[102, 97, 105, 108, 115]⟩) (.pointer (some ⟨g, 6, none⟩))).run Tryz.prog W = .ok () (F2 W) := fun W h => by obtain ⟨f, h⟩ := h; exact (hF2 W _ f h (by omega)).1
    have p23 : ∀ W, GdM m g 3 W → GdM m g 4 (F2 W) := fun W h => by obtain ⟨f, h⟩ := h; exact ⟨_, (hF2 W _ f h (by omega)).2.1⟩
    have e30 : ∀ W, GdM m g 0 W → (Instr.mapUpdate 102 (.map (some m)) (.string ⟨#[99, 111, 111, 108]⟩) (.pointer (some ⟨g, 7, none⟩))).run Tryz.prog W = .ok () (F3 W) := fun W h => by obtain ⟨f, h⟩ := h; exact (hF3 W _ f h (by omega)).1
    have p30 : ∀ W, GdM m g 0 W → GdM m g 1 (F3 W) := fun W h => by obtain ⟨f, h⟩ := h; exact ⟨_, (hF3 W _ f h (by omega)).2.1⟩
    have e31 : ∀ W, GdM m g 1 W → (Instr.mapUpdate 102 (.map (some m)) (.string ⟨#[99, 111, 111, 108]⟩) (.pointer (some ⟨g, 7, none⟩))).run Tryz.prog W = .ok () (F3 W) := fun W h => by obtain ⟨f, h⟩ := h; exact (hF3 W _ f h (by omega)).1
    have p31 : ∀ W, GdM m g 1 W → GdM m g 2 (F3 W) := fun W h => by obtain ⟨f, h⟩ := h; exact ⟨_, (hF3 W _ f h (by omega)).2.1⟩
    have e32 : ∀ W, GdM m g 2 W → (Instr.mapUpdate 102 (.map (some m)) (.string ⟨#[99, 111, 111, 108]⟩) (.pointer (some ⟨g, 7, none⟩))).run Tryz.prog W = .ok () (F3 W) := fun W h => by obtain ⟨f, h⟩ := h; exact (hF3 W _ f h (by omega)).1
    have p32 : ∀ W, GdM m g 2 W → GdM m g 3 (F3 W) := fun W h => by obtain ⟨f, h⟩ := h; exact ⟨_, (hF3 W _ f h (by omega)).2.1⟩
    have e33 : ∀ W, GdM m g 3 W → (Instr.mapUpdate 102 (.map (some m)) (.string ⟨#[99, 111, 111, 108]⟩) (.pointer (some ⟨g, 7, none⟩))).run Tryz.prog W = .ok () (F3 W) := fun W h => by obtain ⟨f, h⟩ := h; exact (hF3 W _ f h (by omega)).1
    have p33 : ∀ W, GdM m g 3 W → GdM m g 4 (F3 W) := fun W h => by obtain ⟨f, h⟩ := h; exact ⟨_, (hF3 W _ f h (by omega)).2.1⟩
    have q0 : GdM m g 1 (F0 ((w2.alloc (.map #[] 0)).drew)) := p00 _ hG0
    have q1 : GdM m g 1 (F1 ((w2.alloc (.map #[] 0)).drew)) := p10 _ hG0
    have q2 : GdM m g 1 (F2 ((w2.alloc (.map #[] 0)).drew)) := p20 _ hG0
    have q3 : GdM m g 1 (F3 ((w2.alloc (.map #[] 0)).drew)) := p30 _ hG0
    have q01 : GdM m g 2 (F1 (F0 ((w2.alloc (.map #[] 0)).drew))) := p11 _ q0
    have q02 : GdM m g 2 (F2 (F0 ((w2.alloc (.map #[] 0)).drew))) := p21 _ q0
    have q03 : GdM m g 2 (F3 (F0 ((w2.alloc (.map #[] 0)).drew))) := p31 _ q0
    have q10 : GdM m g 2 (F0 (F1 ((w2.alloc (.map #[] 0)).drew))) := p01 _ q1
    have q12 : GdM m g 2 (F2 (F1 ((w2.alloc (.map #[] 0)).drew))) := p21 _ q1
    have q13 : GdM m g 2 (F3 (F1 ((w2.alloc (.map #[] 0)).drew))) := p31 _ q1
    have q20 : GdM m g 2 (F0 (F2 ((w2.alloc (.map #[] 0)).drew))) := p01 _ q2
    have q21 : GdM m g 2 (F1 (F2 ((w2.alloc (.map #[] 0)).drew))) := p11 _ q2
    have q23 : GdM m g 2 (F3 (F2 ((w2.alloc (.map #[] 0)).drew))) := p31 _ q2
    have q30 : GdM m g 2 (F0 (F3 ((w2.alloc (.map #[] 0)).drew))) := p01 _ q3
    have q31 : GdM m g 2 (F1 (F3 ((w2.alloc (.map #[] 0)).drew))) := p11 _ q3
    have q32 : GdM m g 2 (F2 (F3 ((w2.alloc (.map #[] 0)).drew))) := p21 _ q3
    have q012 : GdM m g 3 (F2 (F1 (F0 ((w2.alloc (.map #[] 0)).drew)))) := p22 _ q01
    have q013 : GdM m g 3 (F3 (F1 (F0 ((w2.alloc (.map #[] 0)).drew)))) := p32 _ q01
    have q021 : GdM m g 3 (F1 (F2 (F0 ((w2.alloc (.map #[] 0)).drew)))) := p12 _ q02
    have q023 : GdM m g 3 (F3 (F2 (F0 ((w2.alloc (.map #[] 0)).drew)))) := p32 _ q02
    have q031 : GdM m g 3 (F1 (F3 (F0 ((w2.alloc (.map #[] 0)).drew)))) := p12 _ q03
    have q032 : GdM m g 3 (F2 (F3 (F0 ((w2.alloc (.map #[] 0)).drew)))) := p22 _ q03
    have q102 : GdM m g 3 (F2 (F0 (F1 ((w2.alloc (.map #[] 0)).drew)))) := p22 _ q10
    have q103 : GdM m g 3 (F3 (F0 (F1 ((w2.alloc (.map #[] 0)).drew)))) := p32 _ q10
    have q120 : GdM m g 3 (F0 (F2 (F1 ((w2.alloc (.map #[] 0)).drew)))) := p02 _ q12
    have q123 : GdM m g 3 (F3 (F2 (F1 ((w2.alloc (.map #[] 0)).drew)))) := p32 _ q12
    have q130 : GdM m g 3 (F0 (F3 (F1 ((w2.alloc (.map #[] 0)).drew)))) := p02 _ q13
    have q132 : GdM m g 3 (F2 (F3 (F1 ((w2.alloc (.map #[] 0)).drew)))) := p22 _ q13
    have q201 : GdM m g 3 (F1 (F0 (F2 ((w2.alloc (.map #[] 0)).drew)))) := p12 _ q20
    have q203 : GdM m g 3 (F3 (F0 (F2 ((w2.alloc (.map #[] 0)).drew)))) := p32 _ q20
    have q210 : GdM m g 3 (F0 (F1 (F2 ((w2.alloc (.map #[] 0)).drew)))) := p02 _ q21
    have q213 : GdM m g 3 (F3 (F1 (F2 ((w2.alloc (.map #[] 0)).drew)))) := p32 _ q21
    have q230 : GdM m g 3 (F0 (F3 (F2 ((w2.alloc (.map #[] 0)).drew)))) := p02 _ q23
    have q231 : GdM m g 3 (F1 (F3 (F2 ((w2.alloc (.map #[] 0)).drew)))) := p12 _ q23
    have q301 : GdM m g 3 (F1 (F0 (F3 ((w2.alloc (.map #[] 0)).drew)))) := p12 _ q30
    have q302 : GdM m g 3 (F2 (F0 (F3 ((w2.alloc (.map #[] 0)).drew)))) := p22 _ q30
    have q310 : GdM m g 3 (F0 (F1 (F3 ((w2.alloc (.map #[] 0)).drew)))) := p02 _ q31
    have q312 : GdM m g 3 (F2 (F1 (F3 ((w2.alloc (.map #[] 0)).drew)))) := p22 _ q31
    have q320 : GdM m g 3 (F0 (F2 (F3 ((w2.alloc (.map #[] 0)).drew)))) := p02 _ q32
    have q321 : GdM m g 3 (F1 (F2 (F3 ((w2.alloc (.map #[] 0)).drew)))) := p12 _ q32
    clear p00 p01 p02 p03 p10 p11 p12 p13 p20 p21 p22 p23 p30 p31 p32 p33
    replace hF0 := hid hF0
    replace hM0 := hid hM0
    replace OM0 := hid OM0
    replace hF1 := hid hF1
    replace hF2 := hid hF2
    replace hF3 := hid hF3
    go_region
    all_goals
      go_wp2_with fail
      go_meet
      refine ⟨by rw [hm], hid ?_, ?_⟩
      · rw [hm]
        first
          | exact ⟨_, (hF0.out _ _ _ (hF1.out _ _ _ (hF2.out _ _ _ (hF3.out _ _ _ hM0.out (by decide)).2.1 (by decide)).2.1 (by decide)).2.1 (by decide)).2.1, by unfold All4; decide⟩
          | exact ⟨_, (hF0.out _ _ _ (hF1.out _ _ _ (hF3.out _ _ _ (hF2.out _ _ _ hM0.out (by decide)).2.1 (by decide)).2.1 (by decide)).2.1 (by decide)).2.1, by unfold All4; decide⟩
          | exact ⟨_, (hF0.out _ _ _ (hF2.out _ _ _ (hF1.out _ _ _ (hF3.out _ _ _ hM0.out (by decide)).2.1 (by decide)).2.1 (by decide)).2.1 (by decide)).2.1, by unfold All4; decide⟩
          | exact ⟨_, (hF0.out _ _ _ (hF2.out _ _ _ (hF3.out _ _ _ (hF1.out _ _ _ hM0.out (by decide)).2.1 (by decide)).2.1 (by decide)).2.1 (by decide)).2.1, by unfold All4; decide⟩
          | exact ⟨_, (hF0.out _ _ _ (hF3.out _ _ _ (hF1.out _ _ _ (hF2.out _ _ _ hM0.out (by decide)).2.1 (by decide)).2.1 (by decide)).2.1 (by decide)).2.1, by unfold All4; decide⟩
          | exact ⟨_, (hF0.out _ _ _ (hF3.out _ _ _ (hF2.out _ _ _ (hF1.out _ _ _ hM0.out (by decide)).2.1 (by decide)).2.1 (by decide)).2.1 (by decide)).2.1, by unfold All4; decide⟩
          | exact ⟨_, (hF1.out _ _ _ (hF0.out _ _ _ (hF2.out _ _ _ (hF3.out _ _ _ hM0.out (by decide)).2.1 (by decide)).2.1 (by decide)).2.1 (by decide)).2.1, by unfold All4; decide⟩
          | exact ⟨_, (hF1.out _ _ _ (hF0.out _ _ _ (hF3.out _ _ _ (hF2.out _ _ _ hM0.out (by decide)).2.1 (by decide)).2.1 (by decide)).2.1 (by decide)).2.1, by unfold All4; decide⟩
          | exact ⟨_, (hF1.out _ _ _ (hF2.out _ _ _ (hF0.out _ _ _ (hF3.out _ _ _ hM0.out (by decide)).2.1 (by decide)).2.1 (by decide)).2.1 (by decide)).2.1, by unfold All4; decide⟩
          | exact ⟨_, (hF1.out _ _ _ (hF2.out _ _ _ (hF3.out _ _ _ (hF0.out _ _ _ hM0.out (by decide)).2.1 (by decide)).2.1 (by decide)).2.1 (by decide)).2.1, by unfold All4; decide⟩
          | exact ⟨_, (hF1.out _ _ _ (hF3.out _ _ _ (hF0.out _ _ _ (hF2.out _ _ _ hM0.out (by decide)).2.1 (by decide)).2.1 (by decide)).2.1 (by decide)).2.1, by unfold All4; decide⟩
          | exact ⟨_, (hF1.out _ _ _ (hF3.out _ _ _ (hF2.out _ _ _ (hF0.out _ _ _ hM0.out (by decide)).2.1 (by decide)).2.1 (by decide)).2.1 (by decide)).2.1, by unfold All4; decide⟩
          | exact ⟨_, (hF2.out _ _ _ (hF0.out _ _ _ (hF1.out _ _ _ (hF3.out _ _ _ hM0.out (by decide)).2.1 (by decide)).2.1 (by decide)).2.1 (by decide)).2.1, by unfold All4; decide⟩
          | exact ⟨_, (hF2.out _ _ _ (hF0.out _ _ _ (hF3.out _ _ _ (hF1.out _ _ _ hM0.out (by decide)).2.1 (by decide)).2.1 (by decide)).2.1 (by decide)).2.1, by unfold All4; decide⟩
          | exact ⟨_, (hF2.out _ _ _ (hF1.out _ _ _ (hF0.out _ _ _ (hF3.out _ _ _ hM0.out (by decide)).2.1 (by decide)).2.1 (by decide)).2.1 (by decide)).2.1, by unfold All4; decide⟩
          | exact ⟨_, (hF2.out _ _ _ (hF1.out _ _ _ (hF3.out _ _ _ (hF0.out _ _ _ hM0.out (by decide)).2.1 (by decide)).2.1 (by decide)).2.1 (by decide)).2.1, by unfold All4; decide⟩
          | exact ⟨_, (hF2.out _ _ _ (hF3.out _ _ _ (hF0.out _ _ _ (hF1.out _ _ _ hM0.out (by decide)).2.1 (by decide)).2.1 (by decide)).2.1 (by decide)).2.1, by unfold All4; decide⟩
          | exact ⟨_, (hF2.out _ _ _ (hF3.out _ _ _ (hF1.out _ _ _ (hF0.out _ _ _ hM0.out (by decide)).2.1 (by decide)).2.1 (by decide)).2.1 (by decide)).2.1, by unfold All4; decide⟩
          | exact ⟨_, (hF3.out _ _ _ (hF0.out _ _ _ (hF1.out _ _ _ (hF2.out _ _ _ hM0.out (by decide)).2.1 (by decide)).2.1 (by decide)).2.1 (by decide)).2.1, by unfold All4; decide⟩
          | exact ⟨_, (hF3.out _ _ _ (hF0.out _ _ _ (hF2.out _ _ _ (hF1.out _ _ _ hM0.out (by decide)).2.1 (by decide)).2.1 (by decide)).2.1 (by decide)).2.1, by unfold All4; decide⟩
          | exact ⟨_, (hF3.out _ _ _ (hF1.out _ _ _ (hF0.out _ _ _ (hF2.out _ _ _ hM0.out (by decide)).2.1 (by decide)).2.1 (by decide)).2.1 (by decide)).2.1, by unfold All4; decide⟩
          | exact ⟨_, (hF3.out _ _ _ (hF1.out _ _ _ (hF2.out _ _ _ (hF0.out _ _ _ hM0.out (by decide)).2.1 (by decide)).2.1 (by decide)).2.1 (by decide)).2.1, by unfold All4; decide⟩
          | exact ⟨_, (hF3.out _ _ _ (hF2.out _ _ _ (hF0.out _ _ _ (hF1.out _ _ _ hM0.out (by decide)).2.1 (by decide)).2.1 (by decide)).2.1 (by decide)).2.1, by unfold All4; decide⟩
          | exact ⟨_, (hF3.out _ _ _ (hF2.out _ _ _ (hF1.out _ _ _ (hF0.out _ _ _ hM0.out (by decide)).2.1 (by decide)).2.1 (by decide)).2.1 (by decide)).2.1, by unfold All4; decide⟩
      · first
          | exact (((OM0.out.trans' (hF3.out _ _ _ hM0.out (by decide)).2.2 (fun i hi => .inr (by omega))).trans' (hF2.out _ _ _ (hF3.out _ _ _ hM0.out (by decide)).2.1 (by decide)).2.2 (fun i hi => .inr (by omega))).trans' (hF1.out _ _ _ (hF2.out _ _ _ (hF3.out _ _ _ hM0.out (by decide)).2.1 (by decide)).2.1 (by decide)).2.2 (fun i hi => .inr (by omega))).trans' (hF0.out _ _ _ (hF1.out _ _ _ (hF2.out _ _ _ (hF3.out _ _ _ hM0.out (by decide)).2.1 (by decide)).2.1 (by decide)).2.1 (by decide)).2.2 (fun i hi => .inr (by omega))
          | exact (((OM0.out.trans' (hF2.out _ _ _ hM0.out (by decide)).2.2 (fun i hi => .inr (by omega))).trans' (hF3.out _ _ _ (hF2.out _ _ _ hM0.out (by decide)).2.1 (by decide)).2.2 (fun i hi => .inr (by omega))).trans' (hF1.out _ _ _ (hF3.out _ _ _ (hF2.out _ _ _ hM0.out (by decide)).2.1 (by decide)).2.1 (by decide)).2.2 (fun i hi => .inr (by omega))).trans' (hF0.out _ _ _ (hF1.out _ _ _ (hF3.out _ _ _ (hF2.out _ _ _ hM0.out (by decide)).2.1 (by decide)).2.1 (by decide)).2.1 (by decide)).2.2 (fun i hi => .inr (by omega))
          | exact (((OM0.out.trans' (hF3.out _ _ _ hM0.out (by decide)).2.2 (fun i hi => .inr (by omega))).trans' (hF1.out _ _ _ (hF3.out _ _ _ hM0.out (by decide)).2.1 (by decide)).2.2 (fun i hi => .inr (by omega))).trans' (hF2.out _ _ _ (hF1.out _ _ _ (hF3.out _ _ _ hM0.out (by decide)).2.1 (by decide)).2.1 (by decide)).2.2 (fun i hi => .inr (by omega))).trans' (hF0.out _ _ _ (hF2.out _ _ _ (hF1.out _ _ _ (hF3.out _ _ _ hM0.out (by decide)).2.1 (by decide)).2.1 (by decide)).2.1 (by decide)).2.2 (fun i hi => .inr (by omega))
          | exact (((OM0.out.trans' (hF1.out _ _ _ hM0.out (by decide)).2.2 (fun i hi => .inr (by omega))).trans' (hF3.out _ _ _ (hF1.out _ _ _ hM0.out (by decide)).2.1 (by decide)).2.2 (fun i hi => .inr (by omega))).trans' (hF2.out _ _ _ (hF3.out _ _ _ (hF1.out _ _ _ hM0.out (by decide)).2.1 (by decide)).2.1 (by decide)).2.2 (fun i hi => .inr (by omega))).trans' (hF0.out _ _ _ (hF2.out _ _ _ (hF3.out _ _ _ (hF1.out _ _ _ hM0.out (by decide)).2.1 (by decide)).2.1 (by decide)).2.1 (by decide)).2.2 (fun i hi => .inr (by omega))
          | exact (((OM0.out.trans' (hF2.out _ _ _ hM0.out (by decide)).2.2 (fun i hi => .inr (by omega))).trans' (hF1.out _ _ _ (hF2.out _ _ _ hM0.out (by decide)).2.1 (by decide)).2.2 (fun i hi => .inr (by omega))).trans' (hF3.out _ _ _ (hF1.out _ _ _ (hF2.out _ _ _ hM0.out (by decide)).2.1 (by decide)).2.1 (by decide)).2.2 (fun i hi => .inr (by omega))).trans' (hF0.out _ _ _ (hF3.out _ _ _ (hF1.out _ _ _ (hF2.out _ _ _ hM0.out (by decide)).2.1 (by decide)).2.1 (by decide)).2.1 (by decide)).2.2 (fun i hi => .inr (by omega))
          | exact (((OM0.out.trans' (hF1.out _ _ _ hM0.out (by decide)).2.2 (fun i hi => .inr (by omega))).trans' (hF2.out _ _ _ (hF1.out _ _ _ hM0.out (by decide)).2.1 (by decide)).2.2 (fun i hi => .inr (by omega))).trans' (hF3.out _ _ _ (hF2.out _ _ _ (hF1.out _ _ _ hM0.out (by decide)).2.1 (by decide)).2.1 (by decide)).2.2 (fun i hi => .inr (by omega))).trans' (hF0.out _ _ _ (hF3.out _ _ _ (hF2.out _ _ _ (hF1.out _ _ _ hM0.out (by decide)).2.1 (by decide)).2.1 (by decide)).2.1 (by decide)).2.2 (fun i hi => .inr (by omega))
          | exact (((OM0.out.trans' (hF3.out _ _ _ hM0.out (by decide)).2.2 (fun i hi => .inr (by omega))).trans' (hF2.out _ _ _ (hF3.out _ _ _ hM0.out (by decide)).2.1 (by decide)).2.2 (fun i hi => .inr (by omega))).trans' (hF0.out _ _ _ (hF2.out _ _ _ (hF3.out _ _ _ hM0.out (by decide)).2.1 (by decide)).2.1 (by decide)).2.2 (fun i hi => .inr (by omega))).trans' (hF1.out _ _ _ (hF0.out _ _ _ (hF2.out _ _ _ (hF3.out _ _ _ hM0.out (by decide)).2.1 (by decide)).2.1 (by decide)).2.1 (by decide)).2.2 (fun i hi => .inr (by omega))
          | exact (((OM0.out.trans' (hF2.out _ _ _ hM0.out (by decide)).2.2 (fun i hi => .inr (by omega))).trans' (hF3.out _ _ _ (hF2.out _ _ _ hM0.out (by decide)).2.1 (by decide)).2.2 (fun i hi => .inr (by omega))).trans' (hF0.out _ _ _ (hF3.out _ _ _ (hF2.out _ _ _ hM0.out (by decide)).2.1 (by decide)).2.1 (by decide)).2.2 (fun i hi => .inr (by omega))).trans' (hF1.out _ _ _ (hF0.out _ _ _ (hF3.out _ _ _ (hF2.out _ _ _ hM0.out (by decide)).2.1 (by decide)).2.1 (by decide)).2.1 (by decide)).2.2 (fun i hi => .inr (by omega))
          | exact (((OM0.out.trans' (hF3.out _ _ _ hM0.out (by decide)).2.2 (fun i hi => .inr (by omega))).trans' (hF0.out _ _ _ (hF3.out _ _ _ hM0.out (by decide)).2.1 (by decide)).2.2 (fun i hi => .inr (by omega))).trans' (hF2.out _ _ _ (hF0.out _ _ _ (hF3.out _ _ _ hM0.out (by decide)).2.1 (by decide)).2.1 (by decide)).2.2 (fun i hi => .inr (by omega))).trans' (hF1.out _ _ _ (hF2.out _ _ _ (hF0.out _ _ _ (hF3.out _ _ _ hM0.out (by decide)).2.1 (by decide)).2.1 (by decide)).2.1 (by decide)).2.2 (fun i hi => .inr (by omega))
          | exact (((OM0.out.trans' (hF0.out _ _ _ hM0.out (by decide)).2.2 (fun i hi => .inr (by omega))).trans' (hF3.out _ _ _ (hF0.out _ _ _ hM0.out (by decide)).2.1 (by decide)).2.2 (fun i hi => .inr (by omega))).trans' (hF2.out _ _ _ (hF3.out _ _ _ (hF0.out _ _ _ hM0.out (by decide)).2.1 (by decide)).2.1 (by decide)).2.2 (fun i hi => .inr (by omega))).trans' (hF1.out _ _ _ (hF2.out _ _ _ (hF3.out _ _ _ (hF0.out _ _ _ hM0.out (by decide)).2.1 (by decide)).2.1 (by decide)).2.1 (by decide)).2.2 (fun i hi => .inr (by omega))
          | exact (((OM0.out.trans' (hF2.out _ _ _ hM0.out (by decide)).2.2 (fun i hi => .inr (by omega))).trans' (hF0.out _ _ _ (hF2.out _ _ _ hM0.out (by decide)).2.1 (by decide)).2.2 (fun i hi => .inr (by omega))).trans' (hF3.out _ _ _ (hF0.out _ _ _ (hF2.out _ _ _ hM0.out (by decide)).2.1 (by decide)).2.1 (by decide)).2.2 (fun i hi => .inr (by omega))).trans' (hF1.out _ _ _ (hF3.out _ _ _ (hF0.out _ _ _ (hF2.out _ _ _ hM0.out (by decide)).2.1 (by decide)).2.1 (by decide)).2.1 (by decide)).2.2 (fun i hi => .inr (by omega))
          | exact (((OM0.out.trans' (hF0.out _ _ _ hM0.out (by decide)).2.2 (fun i hi => .inr (by omega))).trans' (hF2.out _ _ _ (hF0.out _ _ _ hM0.out (by decide)).2.1 (by decide)).2.2 (fun i hi => .inr (by omega))).trans' (hF3.out _ _ _ (hF2.out _ _ _ (hF0.out _ _ _ hM0.out (by decide)).2.1 (by decide)).2.1 (by decide)).2.2 (fun i hi => .inr (by omega))).trans' (hF1.out _ _ _ (hF3.out _ _ _ (hF2.out _ _ _ (hF0.out _ _ _ hM0.out (by decide)).2.1 (by decide)).2.1 (by decide)).2.1 (by decide)).2.2 (fun i hi => .inr (by omega))
          | exact (((OM0.out.trans' (hF3.out _ _ _ hM0.out (by decide)).2.2 (fun i hi => .inr (by omega))).trans' (hF1.out _ _ _ (hF3.out _ _ _ hM0.out (by decide)).2.1 (by decide)).2.2 (fun i hi => .inr (by omega))).trans' (hF0.out _ _ _ (hF1.out _ _ _ (hF3.out _ _ _ hM0.out (by decide)).2.1 (by decide)).2.1 (by decide)).2.2 (fun i hi => .inr (by omega))).trans' (hF2.out _ _ _ (hF0.out _ _ _ (hF1.out _ _ _ (hF3.out _ _ _ hM0.out (by decide)).2.1 (by decide)).2.1 (by decide)).2.1 (by decide)).2.2 (fun i hi => .inr (by omega))
          | exact (((OM0.out.trans' (hF1.out _ _ _ hM0.out (by decide)).2.2 (fun i hi => .inr (by omega))).trans' (hF3.out _ _ _ (hF1.out _ _ _ hM0.out (by decide)).2.1 (by decide)).2.2 (fun i hi => .inr (by omega))).trans' (hF0.out _ _ _ (hF3.out _ _ _ (hF1.out _ _ _ hM0.out (by decide)).2.1 (by decide)).2.1 (by decide)).2.2 (fun i hi => .inr (by omega))).trans' (hF2.out _ _ _ (hF0.out _ _ _ (hF3.out _ _ _ (hF1.out _ _ _ hM0.out (by decide)).2.1 (by decide)).2.1 (by decide)).2.1 (by decide)).2.2 (fun i hi => .inr (by omega))
          | exact (((OM0.out.trans' (hF3.out _ _ _ hM0.out (by decide)).2.2 (fun i hi => .inr (by omega))).trans' (hF0.out _ _ _ (hF3.out _ _ _ hM0.out (by decide)).2.1 (by decide)).2.2 (fun i hi => .inr (by omega))).trans' (hF1.out _ _ _ (hF0.out _ _ _ (hF3.out _ _ _ hM0.out (by decide)).2.1 (by decide)).2.1 (by decide)).2.2 (fun i hi => .inr (by omega))).trans' (hF2.out _ _ _ (hF1.out _ _ _ (hF0.out _ _ _ (hF3.out _ _ _ hM0.out (by decide)).2.1 (by decide)).2.1 (by decide)).2.1 (by decide)).2.2 (fun i hi => .inr (by omega))
          | exact (((OM0.out.trans' (hF0.out _ _ _ hM0.out (by decide)).2.2 (fun i hi => .inr (by omega))).trans' (hF3.out _ _ _ (hF0.out _ _ _ hM0.out (by decide)).2.1 (by decide)).2.2 (fun i hi => .inr (by omega))).trans' (hF1.out _ _ _ (hF3.out _ _ _ (hF0.out _ _ _ hM0.out (by decide)).2.1 (by decide)).2.1 (by decide)).2.2 (fun i hi => .inr (by omega))).trans' (hF2.out _ _ _ (hF1.out _ _ _ (hF3.out _ _ _ (hF0.out _ _ _ hM0.out (by decide)).2.1 (by decide)).2.1 (by decide)).2.1 (by decide)).2.2 (fun i hi => .inr (by omega))
          | exact (((OM0.out.trans' (hF1.out _ _ _ hM0.out (by decide)).2.2 (fun i hi => .inr (by omega))).trans' (hF0.out _ _ _ (hF1.out _ _ _ hM0.out (by decide)).2.1 (by decide)).2.2 (fun i hi => .inr (by omega))).trans' (hF3.out _ _ _ (hF0.out _ _ _ (hF1.out _ _ _ hM0.out (by decide)).2.1 (by decide)).2.1 (by decide)).2.2 (fun i hi => .inr (by omega))).trans' (hF2.out _ _ _ (hF3.out _ _ _ (hF0.out _ _ _ (hF1.out _ _ _ hM0.out (by decide)).2.1 (by decide)).2.1 (by decide)).2.1 (by decide)).2.2 (fun i hi => .inr (by omega))
          | exact (((OM0.out.trans' (hF0.out _ _ _ hM0.out (by decide)).2.2 (fun i hi => .inr (by omega))).trans' (hF1.out _ _ _ (hF0.out _ _ _ hM0.out (by decide)).2.1 (by decide)).2.2 (fun i hi => .inr (by omega))).trans' (hF3.out _ _ _ (hF1.out _ _ _ (hF0.out _ _ _ hM0.out (by decide)).2.1 (by decide)).2.1 (by decide)).2.2 (fun i hi => .inr (by omega))).trans' (hF2.out _ _ _ (hF3.out _ _ _ (hF1.out _ _ _ (hF0.out _ _ _ hM0.out (by decide)).2.1 (by decide)).2.1 (by decide)).2.1 (by decide)).2.2 (fun i hi => .inr (by omega))
          | exact (((OM0.out.trans' (hF2.out _ _ _ hM0.out (by decide)).2.2 (fun i hi => .inr (by omega))).trans' (hF1.out _ _ _ (hF2.out _ _ _ hM0.out (by decide)).2.1 (by decide)).2.2 (fun i hi => .inr (by omega))).trans' (hF0.out _ _ _ (hF1.out _ _ _ (hF2.out _ _ _ hM0.out (by decide)).2.1 (by decide)).2.1 (by decide)).2.2 (fun i hi => .inr (by omega))).trans' (hF3.out _ _ _ (hF0.out _ _ _ (hF1.out _ _ _ (hF2.out _ _ _ hM0.out (by decide)).2.1 (by decide)).2.1 (by decide)).2.1 (by decide)).2.2 (fun i hi => .inr (by omega))
          | exact (((OM0.out.trans' (hF1.out _ _ _ hM0.out (by decide)).2.2 (fun i hi => .inr (by omega))).trans' (hF2.out _ _ _ (hF1.out _ _ _ hM0.out (by decide)).2.1 (by decide)).2.2 (fun i hi => .inr (by omega))).trans' (hF0.out _ _ _ (hF2.out _ _ _ (hF1.out _ _ _ hM0.out (by decide)).2.1 (by decide)).2.1 (by decide)).2.2 (fun i hi => .inr (by omega))).trans' (hF3.out _ _ _ (hF0.out _ _ _ (hF2.out _ _ _ (hF1.out _ _ _ hM0.out (by decide)).2.1 (by decide)).2.1 (by decide)).2.1 (by decide)).2.2 (fun i hi => .inr (by omega))
          | exact (((OM0.out.trans' (hF2.out _ _ _ hM0.out (by decide)).2.2 (fun i hi => .inr (by omega))).trans' (hF0.out _ _ _ (hF2.out _ _ _ hM0.out (by decide)).2.1 (by decide)).2.2 (fun i hi => .inr (by omega))).trans' (hF1.out _ _ _ (hF0.out _ _ _ (hF2.out _ _ _ hM0.out (by decide)).2.1 (by decide)).2.1 (by decide)).2.2 (fun i hi => .inr (by omega))).trans' (hF3.out _ _ _ (hF1.out _ _ _ (hF0.out _ _ _ (hF2.out _ _ _ hM0.out (by decide)).2.1 (by decide)).2.1 (by decide)).2.1 (by decide)).2.2 (fun i hi => .inr (by omega))
          | exact (((OM0.out.trans' (hF0.out _ _ _ hM0.out (by decide)).2.2 (fun i hi => .inr (by omega))).trans' (hF2.out _ _ _ (hF0.out _ _ _ hM0.out (by decide)).2.1 (by decide)).2.2 (fun i hi => .inr (by omega))).trans' (hF1.out _ _ _ (hF2.out _ _ _ (hF0.out _ _ _ hM0.out (by decide)).2.1 (by decide)).2.1 (by decide)).2.2 (fun i hi => .inr (by omega))).trans' (hF3.out _ _ _ (hF1.out _ _ _ (hF2.out _ _ _ (hF0.out _ _ _ hM0.out (by decide)).2.1 (by decide)).2.1 (by decide)).2.1 (by decide)).2.2 (fun i hi => .inr (by omega))
          | exact (((OM0.out.trans' (hF1.out _ _ _ hM0.out (by decide)).2.2 (fun i hi => .inr (by omega))).trans' (hF0.out _ _ _ (hF1.out _ _ _ hM0.out (by decide)).2.1 (by decide)).2.2 (fun i hi => .inr (by omega))).trans' (hF2.out _ _ _ (hF0.out _ _ _ (hF1.out _ _ _ hM0.out (by decide)).2.1 (by decide)).2.1 (by decide)).2.2 (fun i hi => .inr (by omega))).trans' (hF3.out _ _ _ (hF2.out _ _ _ (hF0.out _ _ _ (hF1.out _ _ _ hM0.out (by decide)).2.1 (by decide)).2.1 (by decide)).2.1 (by decide)).2.2 (fun i hi => .inr (by omega))
          | exact (((OM0.out.trans' (hF0.out _ _ _ hM0.out (by decide)).2.2 (fun i hi => .inr (by omega))).trans' (hF1.out _ _ _ (hF0.out _ _ _ hM0.out (by decide)).2.1 (by decide)).2.2 (fun i hi => .inr (by omega))).trans' (hF2.out _ _ _ (hF1.out _ _ _ (hF0.out _ _ _ hM0.out (by decide)).2.1 (by decide)).2.1 (by decide)).2.2 (fun i hi => .inr (by omega))).trans' (hF3.out _ _ _ (hF2.out _ _ _ (hF1.out _ _ _ (hF0.out _ _ _ hM0.out (by decide)).2.1 (by decide)).2.1 (by decide)).2.1 (by decide)).2.2 (fun i hi => .inr (by omega))
  case rest =>
    obtain ⟨rfl, ⟨f, hM, hf⟩, OC⟩ := hcut
    have hoff : f word.data.toList = some off ∧ 4 ≤ off ∧ off < 8 := by
      obtain ⟨f1, f2, f3, f4⟩ := hf
      simp only [List.mem_cons, Prod.mk.injEq, List.not_mem_nil, or_false] at hword
      rcases hword with ⟨e, rfl⟩ | ⟨e, rfl⟩ | ⟨e, rfl⟩ | ⟨e, rfl⟩ <;> rw [e]
      · exact ⟨f1, by omega, by omega⟩
      · exact ⟨f2, by omega, by omega⟩
      · exact ⟨f3, by omega, by omega⟩
      · exact ⟨f4, by omega, by omega⟩
    have hwsz : word.size ≤ 9223372036854775807 := by
      have e : word.size = word.data.toList.length := rfl
      simp only [List.mem_cons, Prod.mk.injEq, List.not_mem_nil, or_false] at hword
      rcases hword with ⟨h, _⟩ | ⟨h, _⟩ | ⟨h, _⟩ | ⟨h, _⟩ <;> (rw [e, h]; decide)
    have hlook := hM.look hwsz hoff.1
    have HC := OC.keep H2 (fun h => h)
    have hGC := hG2.same OC
    obtain ⟨old, hold⟩ : ∃ u, wc.cell? ⟨g, off, none⟩ = some u := by
      have hb := b_cell HC off
      have hlt : off < #[a0, a1, a2, a3, a4, a5, a6, a7].size := hoff.2.2
      rw [Array.getElem?_eq_getElem hlt] at hb
      exact ⟨_, hb⟩
    have hfree := b_free HC off
    have HS := b_set HC off (.int .i64 n)
    have OS := (O.trans OC).mono' (T := fun i => i = g) (fun i hi => hi.elim)
    have OS2 := OS.setCell (p := ⟨g, off, none⟩) (.inl rfl) (.int .i64 n)
    have hGS := hG2.g hg (((Only.refl (fun i => i = g) w2).trans (OC.mono (fun i hi => hi.elim))).setCell (p := ⟨g, off, none⟩) (.inl rfl) (.int .i64 n))
    clear c0 c1 c2 c3 c4 c5 c6 c7 hM hf hword hwsz H2 HC hGC OS O OC hG2
    replace hoff := hid hoff
    replace HS := hid HS
    go_wp2_with fail
    refine (text_any n (by omega) _ hGS).mono ?_
    rintro e w5 ⟨rfl, O5⟩
    rw [hn2]
    replace HS := O5.keep HS.out (fun h => h)
    replace OS2 := OS2.trans (O5.mono (fun i hi => hi.elim))
    clear O5 hGS hlook hold hfree
    go_wp2_with fail
    go_ret
    exact ⟨rfl, OS2, HS⟩
end Go.Proofs.YtafljoiblfhioaaGreatDoor
