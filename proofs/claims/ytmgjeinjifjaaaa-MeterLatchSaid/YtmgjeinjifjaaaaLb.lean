/-
  The latch: Close.
-/
import Derived.Test.YtmgjeinjifjaaaaLa
namespace Go.Proofs.Ytmgjeinjifjaaaa
open Go.RowKit

set_option maxRecDepth 100000 in
set_option maxHeartbeats 1600000 in
/-- Close's closure, given nil. -/
theorem inner_nil (b b1 b2 b3 : Nat) (c : Int) (t1 t2 t3 : TypeId) (w : World) (h : Hid (LAt w b 0 1 c)) (h1 : w.heap[b1]? = some (.cells #[.bool false] t1 (0, 0))) (h2 : w.heap[b2]? = some (.cells #[.nilFunc] t2 (0, 0))) (h3 : w.heap[b3]? = some (.cells #[.pointer (some ⟨b, 0, none⟩)] t3 (0, 0))) (hne : b ≠ b1 ∧ b1 ≠ b2 ∧ b1 ≠ b3) :
    Calls Try.prog 28 #[.pointer (some ⟨b1, 0, none⟩), .pointer (some ⟨b2, 0, none⟩), .pointer (some ⟨b3, 0, none⟩)] w fun e w' => e = .returned (.tuple #[]) ∧ Hid (LAt w' b 0 1 1) ∧ w'.heap[b1]? = some (.cells #[.bool true] t1 (0, 0)) ∧ Only (fun i => i = b ∨ i = b1) w w' := by
  obtain ⟨n1, n2, n3⟩ := hne
  have f1 := b_free h1 0
  have k1 : (w.setCell ⟨b1, 0, none⟩ (.bool true)).heap[b1]? = _ := b_set h1 0 _
  have k2 : (w.setCell ⟨b1, 0, none⟩ (.bool true)).heap[b2]? = _ := b_far h2 (fun e => n2 e.symm) _
  have k3 : (w.setCell ⟨b1, 0, none⟩ (.bool true)).heap[b3]? = _ := b_far h3 (fun e => n3 e.symm) _
  have kl : Hid (LAt (w.setCell ⟨b1, 0, none⟩ (.bool true)) b 0 1 c) := hid (b_far h.out n1 _)
  have c1 := b_cell h1 0
  have c2 := b_cell k2 0
  have c3 := b_cell k3 0
  simp only [List.getElem?_toArray, List.getElem?_cons_zero] at c1 c2 c3
  have o : Only (fun i => i = b ∨ i = b1) w (w.setCell ⟨b1, 0, none⟩ (.bool true)) := (Only.refl _ _).setCell (.inl (.inr rfl)) _
  have K1 := hid k1
  clear h1 h2 h3 k1 k2 k3 h
  have hq := fun w : World => neq_nil_nil w
  go_enter Try.func28, Try.ntmps28
  go_wp2_with (first | (go_at_call 29; refine (store_any ⟨b, 3, none⟩ _ _ kl.out.c3 (kl.out.free 3)).mono ?_; rintro e w' ⟨rfl, rfl⟩))
  go_end0
  exact ⟨rfl, hid (kl.out.s3 1), b_far K1.out (p := ⟨b, 3, none⟩) (fun e => n1 e.symm) _, (o.setCell (p := ⟨b, 3, none⟩) (.inl (.inl rfl)) _).drew⟩

set_option maxRecDepth 100000 in
set_option maxHeartbeats 1600000 in
/-- Close's closure, given a function that turns the one cell of block g. -/
theorem inner_1 (caps : Array Value) (b b1 b2 b3 g : Nat) (c : Int) (t1 t2 t3 tg : TypeId) (x y : Value) (w : World) (h : Hid (LAt w b 0 1 c)) (h1 : w.heap[b1]? = some (.cells #[.bool false] t1 (0, 0))) (h2 : w.heap[b2]? = some (.cells #[.func (.func 19) #[] caps] t2 (0, 0))) (h3 : w.heap[b3]? = some (.cells #[.pointer (some ⟨b, 0, none⟩)] t3 (0, 0)))
    (hg : w.heap[g]? = some (.cells #[x] tg (0, 0))) (hne : b ≠ b1 ∧ b1 ≠ b2 ∧ b1 ≠ b3) (hgn : b ≠ g ∧ b1 ≠ g ∧ b3 ≠ g)
    (hcall : ∀ w1, Hid (LAt w1 b 0 1 c) → w1.heap[g]? = some (.cells #[x] tg (0, 0)) → Calls Try.prog 19 caps w1 fun e w2 => e = .returned (.tuple #[]) ∧ w2.heap[g]? = some (.cells #[y] tg (0, 0)) ∧ Only (· = g) w1 w2) :
    Calls Try.prog 28 #[.pointer (some ⟨b1, 0, none⟩), .pointer (some ⟨b2, 0, none⟩), .pointer (some ⟨b3, 0, none⟩)] w fun e w' => e = .returned (.tuple #[]) ∧ Hid (LAt w' b 0 1 1) ∧ w'.heap[b1]? = some (.cells #[.bool true] t1 (0, 0)) ∧ w'.heap[g]? = some (.cells #[y] tg (0, 0)) ∧ Only (fun i => i = b ∨ i = b1 ∨ i = g) w w' := by
  obtain ⟨n1, n2, n3⟩ := hne
  obtain ⟨m1, m2, m3⟩ := hgn
  have f1 := b_free h1 0
  have k1 : (w.setCell ⟨b1, 0, none⟩ (.bool true)).heap[b1]? = _ := b_set h1 0 _
  have k2 : (w.setCell ⟨b1, 0, none⟩ (.bool true)).heap[b2]? = _ := b_far h2 (fun e => n2 e.symm) _
  have k3 : (w.setCell ⟨b1, 0, none⟩ (.bool true)).heap[b3]? = _ := b_far h3 (fun e => n3 e.symm) _
  have kg : (w.setCell ⟨b1, 0, none⟩ (.bool true)).heap[g]? = _ := b_far hg (fun e => m2 e.symm) _
  have kl : Hid (LAt (w.setCell ⟨b1, 0, none⟩ (.bool true)) b 0 1 c) := hid (b_far h.out n1 _)
  have c1 := b_cell h1 0
  have c2 := b_cell k2 0
  simp only [List.getElem?_toArray, List.getElem?_cons_zero] at c1 c2
  have o : Only (fun i => i = b ∨ i = b1 ∨ i = g) w (w.setCell ⟨b1, 0, none⟩ (.bool true)) := (Only.refl _ _).setCell (.inl (.inr (.inl rfl))) _
  have K1 := hid k1
  have K3 := hid k3
  have KG := hid kg
  have HC := hid hcall
  clear h1 h2 h3 k1 k2 k3 h hg kg hcall
  have hq := fun w : World => neq_fn_nil 19 caps w
  go_enter Try.func28, Try.ntmps28
  go_wp2_with fail
  refine (HC.out _ kl KG.out).mono ?_
  rintro e w2 ⟨rfl, hg2, o2⟩
  have l2 : Hid (LAt w2 b 0 1 c) := hid (o2.keep kl.out m1)
  have K12 := hid (o2.keep K1.out m2)
  have k32 := o2.keep K3.out m3
  have c3 := b_cell k32 0
  simp only [List.getElem?_toArray, List.getElem?_cons_zero] at c3
  have HG2 := hid hg2
  have o3 := o.trans (o2.mono (fun i hi => .inr (.inr hi)))
  clear K1 K3 KG HC kl c1 c2 o o2 k32 hg2
  go_wp2_with (first | (go_at_call 29; refine (store_any ⟨b, 3, none⟩ _ _ l2.out.c3 (l2.out.free 3)).mono ?_; rintro e w' ⟨rfl, rfl⟩))
  go_end0
  exact ⟨rfl, hid (l2.out.s3 1), b_far K12.out (p := ⟨b, 3, none⟩) (fun e => n1 e.symm) _, b_far HG2.out (p := ⟨b, 3, none⟩) (fun e => m1 e.symm) _, (o3.setCell (p := ⟨b, 3, none⟩) (.inl (.inl rfl)) _).drew⟩

set_option maxRecDepth 100000 in
set_option maxHeartbeats 1600000 in
/-- Close's closure, given a function that turns the one cell of block g. -/
theorem inner_2 (caps : Array Value) (b b1 b2 b3 g : Nat) (c : Int) (t1 t2 t3 tg : TypeId) (x y : Value) (w : World) (h : Hid (LAt w b 0 1 c)) (h1 : w.heap[b1]? = some (.cells #[.bool false] t1 (0, 0))) (h2 : w.heap[b2]? = some (.cells #[.func (.func 21) #[] caps] t2 (0, 0))) (h3 : w.heap[b3]? = some (.cells #[.pointer (some ⟨b, 0, none⟩)] t3 (0, 0)))
    (hg : w.heap[g]? = some (.cells #[x] tg (0, 0))) (hne : b ≠ b1 ∧ b1 ≠ b2 ∧ b1 ≠ b3) (hgn : b ≠ g ∧ b1 ≠ g ∧ b3 ≠ g)
    (hcall : ∀ w1, Hid (LAt w1 b 0 1 c) → w1.heap[g]? = some (.cells #[x] tg (0, 0)) → Calls Try.prog 21 caps w1 fun e w2 => e = .returned (.tuple #[]) ∧ w2.heap[g]? = some (.cells #[y] tg (0, 0)) ∧ Only (· = g) w1 w2) :
    Calls Try.prog 28 #[.pointer (some ⟨b1, 0, none⟩), .pointer (some ⟨b2, 0, none⟩), .pointer (some ⟨b3, 0, none⟩)] w fun e w' => e = .returned (.tuple #[]) ∧ Hid (LAt w' b 0 1 1) ∧ w'.heap[b1]? = some (.cells #[.bool true] t1 (0, 0)) ∧ w'.heap[g]? = some (.cells #[y] tg (0, 0)) ∧ Only (fun i => i = b ∨ i = b1 ∨ i = g) w w' := by
  obtain ⟨n1, n2, n3⟩ := hne
  obtain ⟨m1, m2, m3⟩ := hgn
  have f1 := b_free h1 0
  have k1 : (w.setCell ⟨b1, 0, none⟩ (.bool true)).heap[b1]? = _ := b_set h1 0 _
  have k2 : (w.setCell ⟨b1, 0, none⟩ (.bool true)).heap[b2]? = _ := b_far h2 (fun e => n2 e.symm) _
  have k3 : (w.setCell ⟨b1, 0, none⟩ (.bool true)).heap[b3]? = _ := b_far h3 (fun e => n3 e.symm) _
  have kg : (w.setCell ⟨b1, 0, none⟩ (.bool true)).heap[g]? = _ := b_far hg (fun e => m2 e.symm) _
  have kl : Hid (LAt (w.setCell ⟨b1, 0, none⟩ (.bool true)) b 0 1 c) := hid (b_far h.out n1 _)
  have c1 := b_cell h1 0
  have c2 := b_cell k2 0
  simp only [List.getElem?_toArray, List.getElem?_cons_zero] at c1 c2
  have o : Only (fun i => i = b ∨ i = b1 ∨ i = g) w (w.setCell ⟨b1, 0, none⟩ (.bool true)) := (Only.refl _ _).setCell (.inl (.inr (.inl rfl))) _
  have K1 := hid k1
  have K3 := hid k3
  have KG := hid kg
  have HC := hid hcall
  clear h1 h2 h3 k1 k2 k3 h hg kg hcall
  have hq := fun w : World => neq_fn_nil 21 caps w
  go_enter Try.func28, Try.ntmps28
  go_wp2_with fail
  refine (HC.out _ kl KG.out).mono ?_
  rintro e w2 ⟨rfl, hg2, o2⟩
  have l2 : Hid (LAt w2 b 0 1 c) := hid (o2.keep kl.out m1)
  have K12 := hid (o2.keep K1.out m2)
  have k32 := o2.keep K3.out m3
  have c3 := b_cell k32 0
  simp only [List.getElem?_toArray, List.getElem?_cons_zero] at c3
  have HG2 := hid hg2
  have o3 := o.trans (o2.mono (fun i hi => .inr (.inr hi)))
  clear K1 K3 KG HC kl c1 c2 o o2 k32 hg2
  go_wp2_with (first | (go_at_call 29; refine (store_any ⟨b, 3, none⟩ _ _ l2.out.c3 (l2.out.free 3)).mono ?_; rintro e w' ⟨rfl, rfl⟩))
  go_end0
  exact ⟨rfl, hid (l2.out.s3 1), b_far K12.out (p := ⟨b, 3, none⟩) (fun e => n1 e.symm) _, b_far HG2.out (p := ⟨b, 3, none⟩) (fun e => m1 e.symm) _, (o3.setCell (p := ⟨b, 3, none⟩) (.inl (.inl rfl)) _).drew⟩

theorem new3 (w : World) (o1 o2 o3 : Obj) : (((w.alloc o1).alloc o2).alloc o3).heap[w.heap.size]? = some o1 ∧ (((w.alloc o1).alloc o2).alloc o3).heap[w.heap.size + 1]? = some o2 ∧ (((w.alloc o1).alloc o2).alloc o3).heap[w.heap.size + 1 + 1]? = some o3 := by
  refine ⟨b_alloc (b_alloc (b_new w o1) _) _, ?_, ?_⟩
  · have := b_alloc (b_new (w.alloc o1) o2) o3
    simpa using this
  · have := b_new ((w.alloc o1).alloc o2) o3
    simpa using this

set_option maxRecDepth 100000 in
set_option maxHeartbeats 1600000 in
theorem close_done (b : Nat) (k : Nat) (caps : Array Value) (c : Int) (w : World) (h : Hid (LAt w b 1 0 c))
    :
    Calls Try.prog 20 #[.pointer (some ⟨b, 0, none⟩), .func (.func k) #[] caps] w fun e w' => e = .returned (.bool false) ∧ Hid (LAt w' b 1 0 c) ∧ Only (fun _ => False) w w' := by
  have hmf : ∀ (fn : Fn) (first cap : Array Value) (w : World), (Instr.makeFunc fn first cap).run Try.prog w = .ok (.func fn first cap) w := fun _ _ _ _ => rfl
  have hb := b_lt h.out
  have w3 : Hid (LAt (((w.alloc (.cells #[.pointer (some ⟨b, 0, none⟩)] 66)).alloc (.cells #[.func (.func k) #[] caps] 1)).alloc (.cells #[.bool false] 4)) b 1 0 c) := hid (b_alloc (b_alloc (b_alloc h.out _) _) _)
  have wz := new3 w (.cells #[.pointer (some ⟨b, 0, none⟩)] 66) (.cells #[.func (.func k) #[] caps] 1) (.cells #[.bool false] 4)
  have o3 : Only (fun _ => False) w (((w.alloc (.cells #[.pointer (some ⟨b, 0, none⟩)] 66)).alloc (.cells #[.func (.func k) #[] caps] 1)).alloc (.cells #[.bool false] 4)) := (((Only.refl _ _).alloc _).alloc _).alloc _
  obtain ⟨wz1, wz2, wz3⟩ := wz
  have WZ1 := hid wz1
  have WZ2 := hid wz2
  have WZ3 := hid wz3
  clear wz1 wz2 wz3
  go_enter Try.func20, Try.ntmps20
  go_wp2_with fail
  refine (do_done b c _ _ w3).mono ?_
  rintro e w4 ⟨rfl, rfl⟩
  have hc3 := b_cell WZ3.out 0
  simp only [List.getElem?_toArray, List.getElem?_cons_zero] at hc3
  go_wp2_with fail
  go_ret
  exact ⟨rfl, w3, o3⟩

set_option maxRecDepth 100000 in
set_option maxHeartbeats 1600000 in
theorem close_nil (b : Nat) (w : World) (h : Hid (LAt w b 0 0 0))
    :
    Calls Try.prog 20 #[.pointer (some ⟨b, 0, none⟩), .nilFunc] w fun e w' => e = .returned (.bool true) ∧ Hid (LAt w' b 1 0 1) ∧ Only (· = b) w w' := by
  have hmf : ∀ (fn : Fn) (first cap : Array Value) (w : World), (Instr.makeFunc fn first cap).run Try.prog w = .ok (.func fn first cap) w := fun _ _ _ _ => rfl
  have hb := b_lt h.out
  have w3 : Hid (LAt (((w.alloc (.cells #[.pointer (some ⟨b, 0, none⟩)] 66)).alloc (.cells #[.nilFunc] 1)).alloc (.cells #[.bool false] 4)) b 0 0 0) := hid (b_alloc (b_alloc (b_alloc h.out _) _) _)
  have wz := new3 w (.cells #[.pointer (some ⟨b, 0, none⟩)] 66) (.cells #[.nilFunc] 1) (.cells #[.bool false] 4)
  have o3 : Only (fun _ => False) w (((w.alloc (.cells #[.pointer (some ⟨b, 0, none⟩)] 66)).alloc (.cells #[.nilFunc] 1)).alloc (.cells #[.bool false] 4)) := (((Only.refl _ _).alloc _).alloc _).alloc _
  obtain ⟨wz1, wz2, wz3⟩ := wz
  have WZ1 := hid wz1
  have WZ2 := hid wz2
  have WZ3 := hid wz3
  clear wz1 wz2 wz3
  go_enter Try.func20, Try.ntmps20
  go_wp2_with fail
  refine (do_first b 0 _ _ _ (fun w' => w'.heap[w.heap.size + 1 + 1]? = some (.cells #[.bool true] 4 (0, 0)) ∧ Only (fun i => i = b ∨ i = w.heap.size + 1 + 1) w w') _ w3 (fun w1 hw1 => ?_)).mono ?_
  · subst hw1
    have hne : b ≠ w.heap.size + 1 + 1 ∧ w.heap.size + 1 + 1 ≠ w.heap.size + 1 ∧ w.heap.size + 1 + 1 ≠ w.heap.size := ⟨by omega, by omega, by omega⟩
    refine (inner_nil b _ _ _ 0 _ _ _ _ (hid (w3.out.s1 1)) (b_far WZ3.out (by show _ ≠ b; omega) _) (b_far WZ2.out (by show _ ≠ b; omega) _) (b_far WZ1.out (by show _ ≠ b; omega) _) hne).mono ?_
    rintro e w' ⟨rfl, hl, hf, o⟩
    exact ⟨rfl, hl, hf, ((o3.mono (fun _ h => h.elim)).setCell (p := ⟨b, 1, none⟩) (.inl (.inl rfl)) _).trans o⟩
  rintro e w4 ⟨rfl, w5, h5, ⟨hf, o⟩, rfl⟩
  have hf2 : ((w5.drew.setCell ⟨b, 0, none⟩ (.int .u32 1)).setCell ⟨b, 1, none⟩ (.int .i32 0)).heap[w.heap.size + 1 + 1]? = some (.cells #[.bool true] 4 (0, 0)) := b_far (b_far (b_drew hf) (by show _ ≠ b; omega) _) (by show _ ≠ b; omega) _
  have hc3 := b_cell hf2 0
  simp only [List.getElem?_toArray, List.getElem?_cons_zero] at hc3
  have h6 : Hid (LAt ((w5.drew.setCell ⟨b, 0, none⟩ (.int .u32 1)).setCell ⟨b, 1, none⟩ (.int .i32 0)) b 1 0 1) := hid (LAt.s1 (LAt.s0 (w := w5.drew) h5.out 1) 0)
  have o6 : Only (· = b) w ((w5.drew.setCell ⟨b, 0, none⟩ (.int .u32 1)).setCell ⟨b, 1, none⟩ (.int .i32 0)) := ((((o.mono' (T := (· = b)) (fun i hi => hi.elim .inl (fun e => .inr (by omega)))).drew).setCell (p := ⟨b, 0, none⟩) (.inl rfl) _).setCell (p := ⟨b, 1, none⟩) (.inl rfl) _)
  clear hf2 hf h5 o
  generalize (w5.drew.setCell ⟨b, 0, none⟩ (.int .u32 1)).setCell ⟨b, 1, none⟩ (.int .i32 0) = w6 at *
  go_wp2_with fail
  go_ret
  exact ⟨rfl, h6, o6⟩

set_option maxRecDepth 100000 in
set_option maxHeartbeats 1600000 in
theorem close_1 (b : Nat) (caps : Array Value) (g : Nat) (tg : TypeId) (x y : Value) (w : World) (h : Hid (LAt w b 0 0 0))
    (hg : w.heap[g]? = some (.cells #[x] tg (0, 0))) (hbg : b ≠ g)
    (hcall : ∀ w1, Hid (LAt w1 b 0 1 0) → w1.heap[g]? = some (.cells #[x] tg (0, 0)) → Calls Try.prog 19 caps w1 fun e w2 => e = .returned (.tuple #[]) ∧ w2.heap[g]? = some (.cells #[y] tg (0, 0)) ∧ Only (· = g) w1 w2) :
    Calls Try.prog 20 #[.pointer (some ⟨b, 0, none⟩), .func (.func 19) #[] caps] w fun e w' => e = .returned (.bool true) ∧ Hid (LAt w' b 1 0 1) ∧ Hid (w'.heap[g]? = some (.cells #[y] tg (0, 0))) ∧ Only (fun i => i = b ∨ i = g) w w' := by
  have hmf : ∀ (fn : Fn) (first cap : Array Value) (w : World), (Instr.makeFunc fn first cap).run Try.prog w = .ok (.func fn first cap) w := fun _ _ _ _ => rfl
  have hb := b_lt h.out
  have w3 : Hid (LAt (((w.alloc (.cells #[.pointer (some ⟨b, 0, none⟩)] 66)).alloc (.cells #[.func (.func 19) #[] caps] 1)).alloc (.cells #[.bool false] 4)) b 0 0 0) := hid (b_alloc (b_alloc (b_alloc h.out _) _) _)
  have wz := new3 w (.cells #[.pointer (some ⟨b, 0, none⟩)] 66) (.cells #[.func (.func 19) #[] caps] 1) (.cells #[.bool false] 4)
  have o3 : Only (fun _ => False) w (((w.alloc (.cells #[.pointer (some ⟨b, 0, none⟩)] 66)).alloc (.cells #[.func (.func 19) #[] caps] 1)).alloc (.cells #[.bool false] 4)) := (((Only.refl _ _).alloc _).alloc _).alloc _
  obtain ⟨wz1, wz2, wz3⟩ := wz
  have WZ1 := hid wz1
  have WZ2 := hid wz2
  have WZ3 := hid wz3
  clear wz1 wz2 wz3
  go_enter Try.func20, Try.ntmps20
  go_wp2_with fail
  refine (do_first b 0 _ _ _ (fun w' => w'.heap[w.heap.size + 1 + 1]? = some (.cells #[.bool true] 4 (0, 0)) ∧ w'.heap[g]? = some (.cells #[y] tg (0, 0)) ∧ Only (fun i => i = b ∨ i = w.heap.size + 1 + 1 ∨ i = g) w w') _ w3 (fun w1 hw1 => ?_)).mono ?_
  · subst hw1
    have hgl := b_lt hg
    have hne : b ≠ w.heap.size + 1 + 1 ∧ w.heap.size + 1 + 1 ≠ w.heap.size + 1 ∧ w.heap.size + 1 + 1 ≠ w.heap.size := ⟨by omega, by omega, by omega⟩
    refine (inner_1 caps b _ _ _ g 0 _ _ _ tg x y _ (hid (w3.out.s1 1)) (b_far WZ3.out (by show _ ≠ b; omega) _) (b_far WZ2.out (by show _ ≠ b; omega) _) (b_far WZ1.out (by show _ ≠ b; omega) _) (b_far (b_alloc (b_alloc (b_alloc hg _) _) _) (fun e => hbg e.symm) _) hne ⟨hbg, by omega, by omega⟩ hcall).mono ?_
    rintro e w' ⟨rfl, hl, hf, hg', o⟩
    exact ⟨rfl, hl, hf, hg', ((o3.mono (fun _ h => h.elim)).setCell (p := ⟨b, 1, none⟩) (.inl (.inl rfl)) _).trans o⟩
  rintro e w4 ⟨rfl, w5, h5, ⟨hf, hg5, o⟩, rfl⟩
  have hf2 : ((w5.drew.setCell ⟨b, 0, none⟩ (.int .u32 1)).setCell ⟨b, 1, none⟩ (.int .i32 0)).heap[w.heap.size + 1 + 1]? = some (.cells #[.bool true] 4 (0, 0)) := b_far (b_far (b_drew hf) (by show _ ≠ b; omega) _) (by show _ ≠ b; omega) _
  have hg6 : Hid (((w5.drew.setCell ⟨b, 0, none⟩ (.int .u32 1)).setCell ⟨b, 1, none⟩ (.int .i32 0)).heap[g]? = some (.cells #[y] tg (0, 0))) := hid (b_far (b_far (b_drew hg5) (fun e => hbg e.symm) _) (fun e => hbg e.symm) _)
  have hc3 := b_cell hf2 0
  simp only [List.getElem?_toArray, List.getElem?_cons_zero] at hc3
  have h6 : Hid (LAt ((w5.drew.setCell ⟨b, 0, none⟩ (.int .u32 1)).setCell ⟨b, 1, none⟩ (.int .i32 0)) b 1 0 1) := hid (LAt.s1 (LAt.s0 (w := w5.drew) h5.out 1) 0)
  have o6 : Only (fun i => i = b ∨ i = g) w ((w5.drew.setCell ⟨b, 0, none⟩ (.int .u32 1)).setCell ⟨b, 1, none⟩ (.int .i32 0)) := ((((o.mono' (T := fun i => i = b ∨ i = g) (fun i hi => hi.elim (fun e => .inl (.inl e)) (fun hi => hi.elim (fun e => .inr (by omega)) (fun e => .inl (.inr e))))).drew).setCell (p := ⟨b, 0, none⟩) (.inl (.inl rfl)) _).setCell (p := ⟨b, 1, none⟩) (.inl (.inl rfl)) _)
  clear hf2 hf h5 o hg5 hcall
  generalize (w5.drew.setCell ⟨b, 0, none⟩ (.int .u32 1)).setCell ⟨b, 1, none⟩ (.int .i32 0) = w6 at *
  go_wp2_with fail
  go_ret
  exact ⟨rfl, h6, hg6, o6⟩

set_option maxRecDepth 100000 in
set_option maxHeartbeats 1600000 in
theorem close_2 (b : Nat) (caps : Array Value) (g : Nat) (tg : TypeId) (x y : Value) (w : World) (h : Hid (LAt w b 0 0 0))
    (hg : w.heap[g]? = some (.cells #[x] tg (0, 0))) (hbg : b ≠ g)
    (hcall : ∀ w1, Hid (LAt w1 b 0 1 0) → w1.heap[g]? = some (.cells #[x] tg (0, 0)) → Calls Try.prog 21 caps w1 fun e w2 => e = .returned (.tuple #[]) ∧ w2.heap[g]? = some (.cells #[y] tg (0, 0)) ∧ Only (· = g) w1 w2) :
    Calls Try.prog 20 #[.pointer (some ⟨b, 0, none⟩), .func (.func 21) #[] caps] w fun e w' => e = .returned (.bool true) ∧ Hid (LAt w' b 1 0 1) ∧ Hid (w'.heap[g]? = some (.cells #[y] tg (0, 0))) ∧ Only (fun i => i = b ∨ i = g) w w' := by
  have hmf : ∀ (fn : Fn) (first cap : Array Value) (w : World), (Instr.makeFunc fn first cap).run Try.prog w = .ok (.func fn first cap) w := fun _ _ _ _ => rfl
  have hb := b_lt h.out
  have w3 : Hid (LAt (((w.alloc (.cells #[.pointer (some ⟨b, 0, none⟩)] 66)).alloc (.cells #[.func (.func 21) #[] caps] 1)).alloc (.cells #[.bool false] 4)) b 0 0 0) := hid (b_alloc (b_alloc (b_alloc h.out _) _) _)
  have wz := new3 w (.cells #[.pointer (some ⟨b, 0, none⟩)] 66) (.cells #[.func (.func 21) #[] caps] 1) (.cells #[.bool false] 4)
  have o3 : Only (fun _ => False) w (((w.alloc (.cells #[.pointer (some ⟨b, 0, none⟩)] 66)).alloc (.cells #[.func (.func 21) #[] caps] 1)).alloc (.cells #[.bool false] 4)) := (((Only.refl _ _).alloc _).alloc _).alloc _
  obtain ⟨wz1, wz2, wz3⟩ := wz
  have WZ1 := hid wz1
  have WZ2 := hid wz2
  have WZ3 := hid wz3
  clear wz1 wz2 wz3
  go_enter Try.func20, Try.ntmps20
  go_wp2_with fail
  refine (do_first b 0 _ _ _ (fun w' => w'.heap[w.heap.size + 1 + 1]? = some (.cells #[.bool true] 4 (0, 0)) ∧ w'.heap[g]? = some (.cells #[y] tg (0, 0)) ∧ Only (fun i => i = b ∨ i = w.heap.size + 1 + 1 ∨ i = g) w w') _ w3 (fun w1 hw1 => ?_)).mono ?_
  · subst hw1
    have hgl := b_lt hg
    have hne : b ≠ w.heap.size + 1 + 1 ∧ w.heap.size + 1 + 1 ≠ w.heap.size + 1 ∧ w.heap.size + 1 + 1 ≠ w.heap.size := ⟨by omega, by omega, by omega⟩
    refine (inner_2 caps b _ _ _ g 0 _ _ _ tg x y _ (hid (w3.out.s1 1)) (b_far WZ3.out (by show _ ≠ b; omega) _) (b_far WZ2.out (by show _ ≠ b; omega) _) (b_far WZ1.out (by show _ ≠ b; omega) _) (b_far (b_alloc (b_alloc (b_alloc hg _) _) _) (fun e => hbg e.symm) _) hne ⟨hbg, by omega, by omega⟩ hcall).mono ?_
    rintro e w' ⟨rfl, hl, hf, hg', o⟩
    exact ⟨rfl, hl, hf, hg', ((o3.mono (fun _ h => h.elim)).setCell (p := ⟨b, 1, none⟩) (.inl (.inl rfl)) _).trans o⟩
  rintro e w4 ⟨rfl, w5, h5, ⟨hf, hg5, o⟩, rfl⟩
  have hf2 : ((w5.drew.setCell ⟨b, 0, none⟩ (.int .u32 1)).setCell ⟨b, 1, none⟩ (.int .i32 0)).heap[w.heap.size + 1 + 1]? = some (.cells #[.bool true] 4 (0, 0)) := b_far (b_far (b_drew hf) (by show _ ≠ b; omega) _) (by show _ ≠ b; omega) _
  have hg6 : Hid (((w5.drew.setCell ⟨b, 0, none⟩ (.int .u32 1)).setCell ⟨b, 1, none⟩ (.int .i32 0)).heap[g]? = some (.cells #[y] tg (0, 0))) := hid (b_far (b_far (b_drew hg5) (fun e => hbg e.symm) _) (fun e => hbg e.symm) _)
  have hc3 := b_cell hf2 0
  simp only [List.getElem?_toArray, List.getElem?_cons_zero] at hc3
  have h6 : Hid (LAt ((w5.drew.setCell ⟨b, 0, none⟩ (.int .u32 1)).setCell ⟨b, 1, none⟩ (.int .i32 0)) b 1 0 1) := hid (LAt.s1 (LAt.s0 (w := w5.drew) h5.out 1) 0)
  have o6 : Only (fun i => i = b ∨ i = g) w ((w5.drew.setCell ⟨b, 0, none⟩ (.int .u32 1)).setCell ⟨b, 1, none⟩ (.int .i32 0)) := ((((o.mono' (T := fun i => i = b ∨ i = g) (fun i hi => hi.elim (fun e => .inl (.inl e)) (fun hi => hi.elim (fun e => .inr (by omega)) (fun e => .inl (.inr e))))).drew).setCell (p := ⟨b, 0, none⟩) (.inl (.inl rfl)) _).setCell (p := ⟨b, 1, none⟩) (.inl (.inl rfl)) _)
  clear hf2 hf h5 o hg5 hcall
  generalize (w5.drew.setCell ⟨b, 0, none⟩ (.int .u32 1)).setCell ⟨b, 1, none⟩ (.int .i32 0) = w6 at *
  go_wp2_with fail
  go_ret
  exact ⟨rfl, h6, hg6, o6⟩
end Go.Proofs.Ytmgjeinjifjaaaa
