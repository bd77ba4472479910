/-
  The clock's state; New, Now, clean.
-/
import Derived.Test.YtjfhghimldjcfaaA
import Derived.Carry
import Derived.Laws.EntriesVeiled
namespace Go.Proofs.Ytjfhghimldjcfaa
open Go.RowKit

/-- A clock in the heap: its struct, its queue, its map. -/
structure Ck0 (w : World) (cb mb : Nat) (A : Option Addr) (cap n nm : Nat) (q : Nat → Int × Int) (now : Int) (f : Int → Option Int) : Prop where
  row : Hid (w.heap[cb]? = some (.cells #[.int .i64 now, .slice A n cap, .map (some mb)] 54 (0, 0)))
  qr : QRow w A n cap q
  heap : HeapQ q n
  map : MapI w mb nm f
  sub : ∀ k t, f k = some t → MemQ (t, k) q n
  wf : ∀ d, MemQ d q n → I64 d.1 ∧ I64 d.2
  ok : ∀ k t, f k = some t → t ≤ 1099511627776
  nowb : 0 ≤ now ∧ now ≤ 1099511627776
  ne : cb ≠ mb ∧ ¬ ab A cb ∧ ¬ ab A mb
/-- The blocks of a clock. -/
def fp (cb mb : Nat) (A : Option Addr) (i : Nat) : Prop := i = cb ∨ i = mb ∨ ab A i
theorem Ck0.q {w : World} {cb mb : Nat} {A : Option Addr} {cap n nm : Nat} {q : Nat → Int × Int} {now : Int} {f : Int → Option Int} (h : Ck0 w cb mb A cap n nm q now f) : QAt w ⟨cb, 1, none⟩ A n cap q :=
  ⟨by rw [b_cell h.row.out]; rfl, b_lt h.row.out, h.qr, h.ne.2.1, b_free h.row.out 1⟩
theorem Ck0.keep {S : Nat → Prop} {w w' : World} {cb mb : Nat} {A : Option Addr} {cap n nm : Nat} {q : Nat → Int × Int} {now : Int} {f : Int → Option Int} (h : Ck0 w cb mb A cap n nm q now f) (o : Only S w w') (hs : ∀ i, fp cb mb A i → ¬ S i) : Ck0 w' cb mb A cap n nm q now f :=
  ⟨hid (o.keep h.row.out (hs _ (.inl rfl))), h.qr.keep o (fun a ha => hs _ (.inr (.inr ⟨a, ha, rfl⟩))), h.heap, h.map.keep o (hs _ (.inr (.inl rfl))), h.sub, h.wf, h.ok, h.nowb, h.ne⟩
theorem Ck0.lt {w : World} {cb mb : Nat} {A : Option Addr} {cap n nm : Nat} {q : Nat → Int × Int} {now : Int} {f : Int → Option Int} (h : Ck0 w cb mb A cap n nm q now f) : ∀ i, fp cb mb A i → i < w.heap.size := by
  rintro i (rfl | rfl | ⟨a, ha, rfl⟩)
  · exact b_lt h.row.out
  · exact h.map.lt
  · rcases h.qr with ⟨h0, _⟩ | ⟨g, cs, hA, hg, _⟩
    · rw [ha] at h0; cases h0
    · rw [ha] at hA; cases hA; exact b_lt hg
/-- The clock: S is what is to happen; at most N were set. -/
def Ck (w : World) (cb mb : Nat) (A : Option Addr) (now : Int) (S : List (Int × Int)) (N : Nat) : Prop :=
  ∃ cap n nm q f, Ck0 w cb mb A cap n nm q now f ∧ Lists S f ∧ n ≤ N ∧ nm ≤ N
/-- .. and the first stands ahead. -/
def CkC (w : World) (cb mb : Nat) (A : Option Addr) (now : Int) (S : List (Int × Int)) (N : Nat) : Prop :=
  ∃ cap n nm q f, Ck0 w cb mb A cap n nm q now f ∧ Lists S f ∧ n ≤ N ∧ nm ≤ N ∧ (n = 0 → S = []) ∧ (0 < n → ∃ S', S = q 0 :: S')
theorem CkC.ck {w : World} {cb mb : Nat} {A : Option Addr} {now : Int} {S : List (Int × Int)} {N : Nat} (h : CkC w cb mb A now S N) : Ck w cb mb A now S N := by
  obtain ⟨cap, n, nm, q, f, h1, h2, h3, h4, _⟩ := h
  exact ⟨cap, n, nm, q, f, h1, h2, h3, h4⟩
theorem Ck.keep {T : Nat → Prop} {w w' : World} {cb mb : Nat} {A : Option Addr} {now : Int} {S : List (Int × Int)} {N : Nat} (h : Ck w cb mb A now S N) (o : Only T w w') (hs : ∀ i, fp cb mb A i → ¬ T i) : Ck w' cb mb A now S N := by
  obtain ⟨cap, n, nm, q, f, h1, r⟩ := h
  exact ⟨cap, n, nm, q, f, h1.keep o hs, r⟩
theorem CkC.keep {T : Nat → Prop} {w w' : World} {cb mb : Nat} {A : Option Addr} {now : Int} {S : List (Int × Int)} {N : Nat} (h : CkC w cb mb A now S N) (o : Only T w w') (hs : ∀ i, fp cb mb A i → ¬ T i) : CkC w' cb mb A now S N := by
  obtain ⟨cap, n, nm, q, f, h1, r⟩ := h
  exact ⟨cap, n, nm, q, f, h1.keep o hs, r⟩
theorem Ck.lt {w : World} {cb mb : Nat} {A : Option Addr} {now : Int} {S : List (Int × Int)} {N : Nat} (h : Ck w cb mb A now S N) : ∀ i, fp cb mb A i → i < w.heap.size := by
  obtain ⟨cap, n, nm, q, f, h1, r⟩ := h
  exact h1.lt
theorem Ck.same {T : Nat → Prop} {w w' : World} {cb mb : Nat} {A : Option Addr} {now : Int} {S : List (Int × Int)} {N : Nat} (h : Ck w cb mb A now S N) (o : Only T w w') (hs : ∀ i, T i → w.heap.size ≤ i) : Ck w' cb mb A now S N :=
  h.keep o (fun i hi ht => by have := h.lt i hi; have := hs i ht; omega)
theorem Ck.mono {w : World} {cb mb : Nat} {A : Option Addr} {now : Int} {S : List (Int × Int)} {N M : Nat} (h : Ck w cb mb A now S N) (hm : N ≤ M) : Ck w cb mb A now S M := by
  obtain ⟨cap, n, nm, q, f, h1, h2, h3, h4⟩ := h
  exact ⟨cap, n, nm, q, f, h1, h2, by omega, by omega⟩

theorem cnew_any (w : World) :
    Calls Try.prog 7 #[] w fun e w' => e = .returned (.pointer (some ⟨w.heap.size + 1, 0, none⟩)) ∧ Hid (Ck w' (w.heap.size + 1) w.heap.size none 0 [] 0) ∧ Only (fun _ => False) w w' := by
  have hmm := @run_makeMap Try.prog
  go_enter Try.func7, Try.ntmps7
  go_wp2_with fail
  go_ret
  have h1 : (w.alloc (.map #[] 0)).heap.size = w.heap.size + 1 := by simp
  refine ⟨rfl, hid ⟨0, 0, 0, fun _ => (0, 0), fun _ => none, ⟨hid ?_, .inl ⟨rfl, rfl, rfl⟩, fun i h0 h1 => (by omega), ?_, fun k t e => (by cases e), fun d ⟨x, hx, _⟩ => (by omega), fun k t e => (by cases e), (by omega), ⟨(by omega), fun ⟨b, hb, _⟩ => (by cases hb), fun ⟨b, hb, _⟩ => (by cases hb)⟩⟩, ⟨List.Pairwise.nil, fun k t => by simp⟩, by omega, by omega⟩, ((Only.refl _ _).alloc _).alloc _⟩
  · have := b_new (w.alloc (.map #[] 0)) (.cells #[.int .i64 0, .slice none 0 0, .map (some w.heap.size)] 54 (0, 0))
    rw [h1] at this
    exact this
  · exact (mapI_new w).keep (S := fun _ => False) ((Only.refl _ _).alloc _) (fun h => h)
theorem now_any {w : World} {cb mb : Nat} {A : Option Addr} {now : Int} {S : List (Int × Int)} {N : Nat} (h : Hid (Ck w cb mb A now S N)) :
    Calls Try.prog 17 #[.pointer (some ⟨cb, 0, none⟩)] w fun e w' => e = .returned (.int .i64 now) ∧ w = w' := by
  obtain ⟨cap, n, nm, q, f, h1, _⟩ := h.out
  have c0 := b_cell h1.row.out 0
  simp only [List.getElem?_toArray, List.getElem?_cons_zero] at c0
  clear h1
  go_enter Try.func17, Try.ntmps17
  go_wp2_with fail
  go_ret
  exact ⟨rfl, rfl⟩

def qlen (w : World) (cb : Nat) : Nat := match w.cell? ⟨cb, 1, none⟩ with | some (.slice _ n _) => n | _ => 0
theorem qlen_of {w : World} {cb mb : Nat} {A : Option Addr} {cap n nm : Nat} {q : Nat → Int × Int} {now : Int} {f : Int → Option Int} (h : Ck0 w cb mb A cap n nm q now f) : qlen w cb = n := by
  unfold qlen
  rw [h.q.cell]
end Go.Proofs.Ytjfhghimldjcfaa
