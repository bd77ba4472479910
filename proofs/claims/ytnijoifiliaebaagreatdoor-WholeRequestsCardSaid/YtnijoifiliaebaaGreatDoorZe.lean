/-
  WholeRequests: the walk.
-/
import Derived.Test.YtnijoifiliaebaaGreatDoorZd
import Derived.Test.YtnijoifiliaebaaGreatDoorM
namespace Go.Proofs.YtnijoifiliaebaaGreatDoor
open Go.RowKit

/-- An ask that came in. -/
structure AskD where
  m : ByteArray
  p : ByteArray
  n : ByteArray
  v : ByteArray
  A : Option Addr
  bn : Nat
  bc : Nat
  body : List UInt8
  size : Int
structure AskD.Ok (w : World) (d : AskD) : Prop where
  bs : Bs w d.A d.bn d.bc d.body
  hm : d.m.size ≤ 9223372036854775807
  hp : d.p.size ≤ 9223372036854775806
  s1 : -9223372036854775808 ≤ d.size
  s2 : d.size ≤ 9223372036854775807
def AskD.bytes (d : AskD) : List UInt8 := askB d.m.data.toList (47 :: d.p.data.toList) (d.n.data.toList, d.v.data.toList) d.body d.size
def AskD.Right (d : AskD) : Prop := AskOK d.m.data.toList (47 :: d.p.data.toList) (d.n.data.toList, d.v.data.toList) d.body
/-- The asks lie at A. -/
structure Asks (w : World) (A : Option Addr) (ds : List AskD) : Prop where
  row : 0 < ds.length → ∃ b off, A = some ⟨b, off, none⟩ ∧ b < w.heap.size ∧ ∀ i d, ds[i]? = some d →
    w.cell? ⟨b, off + i * 6, none⟩ = some (.string d.m) ∧ w.cell? ⟨b, off + i * 6 + 1, none⟩ = some (.string d.p) ∧ w.cell? ⟨b, off + i * 6 + 2, none⟩ = some (.string d.n) ∧ w.cell? ⟨b, off + i * 6 + 3, none⟩ = some (.string d.v) ∧ w.cell? ⟨b, off + i * 6 + 4, none⟩ = some (.slice d.A d.bn d.bc) ∧ w.cell? ⟨b, off + i * 6 + 5, none⟩ = some (.int .i64 d.size)
  ok : ∀ d ∈ ds, d.Ok w
theorem AskD.Ok.same {w w' : World} {d : AskD} (h : d.Ok w) (o : Only (fun _ => False) w w') : d.Ok w' := ⟨h.bs.same o, h.hm, h.hp, h.s1, h.s2⟩
theorem Asks.same {w w' : World} {A : Option Addr} {ds : List AskD} (h : Asks w A ds) (o : Only (fun _ => False) w w') : Asks w' A ds := by
  refine ⟨fun h0 => ?_, fun d hd => (h.ok d hd).same o⟩
  obtain ⟨b, off, e, hb, hc⟩ := h.row h0
  refine ⟨b, off, e, Nat.lt_of_lt_of_le hb o.size, fun i d hd => ?_⟩
  obtain ⟨h1, h2, h3, h4, h5, h6⟩ := hc i d hd
  have k := fun j => o.cell (p := ⟨b, j, none⟩) hb (fun h => h)
  exact ⟨(k _).trans h1, (k _).trans h2, (k _).trans h3, (k _).trans h4, (k _).trans h5, (k _).trans h6⟩
theorem Asks.at_ {w : World} {A : Option Addr} {ds : List AskD} (h : Asks w A ds) (i : Nat) (d : AskD) (hd : ds[i]? = some d) : ∃ b off, A = some ⟨b, off, none⟩ ∧ b < w.heap.size ∧ w.cell? ⟨b, off + i * 6, none⟩ = some (.string d.m) ∧ w.cell? ⟨b, off + i * 6 + 1, none⟩ = some (.string d.p) ∧ w.cell? ⟨b, off + i * 6 + 2, none⟩ = some (.string d.n) ∧ w.cell? ⟨b, off + i * 6 + 3, none⟩ = some (.string d.v) ∧ w.cell? ⟨b, off + i * 6 + 4, none⟩ = some (.slice d.A d.bn d.bc) ∧ w.cell? ⟨b, off + i * 6 + 5, none⟩ = some (.int .i64 d.size) := by
  obtain ⟨b, off, e, hb, hc⟩ := h.row (by have := (List.getElem?_eq_some_iff.1 hd).1; omega)
  exact ⟨b, off, e, hb, hc i d hd⟩

theorem askB_len (d : AskD) (h : d.Right) : d.bytes.length ≤ 10000 := by
  have hb := h.hb
  unfold AskD.bytes
  rw [askB_eq, List.length_append]
  unfold askFs askBody
  by_cases hs : 0 < d.size
  · rw [if_pos hs, if_pos hs]
    have h1 := h.headC.hlen
    have h2 := encF_le d.size.toNat d.body (by omega) hb
    omega
  · rw [if_neg hs, if_neg hs]
    have h1 := (h.headN d.body.length hb).hlen
    omega
/-- All bytes of the first asks. -/
def bytesK (ds : List AskD) (k : Nat) : List UInt8 := (ds.take k).flatMap AskD.bytes
theorem bytesK_succ (ds : List AskD) (k : Nat) (d : AskD) (h : ds[k]? = some d) : bytesK ds (k + 1) = bytesK ds k ++ d.bytes := by
  unfold bytesK
  rw [List.take_add_one, h]
  simp
theorem bytesK_len (ds : List AskD) : ∀ (k : Nat), (∀ (i : Nat) (d : AskD), i < k → ds[i]? = some d → d.Right) → (bytesK ds k).length ≤ 10000 * k
  | 0, _ => by simp [bytesK]
  | k + 1, h => by
    have ih := bytesK_len ds k (fun i d hi hd => h i d (by omega) hd)
    cases hd : ds[k]? with
    | none =>
      have : bytesK ds (k + 1) = bytesK ds k := by unfold bytesK; rw [List.take_add_one, hd]; simp
      rw [this]
      omega
    | some d =>
      rw [bytesK_succ ds k d hd, List.length_append]
      have := askB_len d (h k d (by omega) hd)
      omega
theorem bytesK_split (ds : List AskD) (k : Nat) (d : AskD) (h : ds[k]? = some d) : (bytesK ds ds.length).drop (bytesK ds k).length = d.bytes ++ ((ds.drop (k + 1)).flatMap AskD.bytes) := by
  have hk := (List.getElem?_eq_some_iff.1 h).1
  have e : ds = ds.take k ++ d :: ds.drop (k + 1) := by
    conv => lhs; rw [← List.take_append_drop k ds, List.drop_eq_getElem_cons hk, (List.getElem?_eq_some_iff.1 h).2]
  have e2 : bytesK ds ds.length = bytesK ds k ++ (d.bytes ++ ((ds.drop (k + 1)).flatMap AskD.bytes)) := by
    unfold bytesK
    rw [List.take_length]
    conv => lhs; rw [e]
    rw [List.flatMap_append, List.flatMap_cons]
  rw [e2, List.drop_left]

/-- The ends of the first asks. -/
def endsV (ds : List AskD) (k : Nat) : List Value := (List.range k).map fun i => .int .i64 ((bytesK ds (i + 1)).length : Int)
theorem endsV_len (ds : List AskD) (k : Nat) : (endsV ds k).length = k := by simp [endsV]
theorem endsV_succ (ds : List AskD) (k : Nat) : endsV ds (k + 1) = endsV ds k ++ [.int .i64 ((bytesK ds (k + 1)).length : Int)] := by
  unfold endsV
  rw [List.range_succ]
  simp
theorem endsV_at (ds : List AskD) (k i : Nat) (h : i < k) : (endsV ds k)[i]? = some (.int .i64 ((bytesK ds (i + 1)).length : Int)) := by
  simp [endsV, h]
theorem info_int : (Tryz.prog.info? 3).map (fun i => (i.zero, i.size, i.bytes)) = some (some (.int .i64 0), 1, 8) := by kernel_rfl
section
variable {ops : Array Oper} {rest : List Oper} {o : Oper} {a : Act} {Q : Exit → Act → World → Prop} {W : World}
/-- append(xs, n), one number, which lies in a new block. -/
theorem app_i (hgd : o.guard = none) (sl x : Operand) (ho : o.op = .call { callee := .builtin .append, args := #[sl, x], argTypes := #[25, 25] })
    (base n cap : Nat) (A : Option Addr) (l : List Value) (z : Int) (hs : a.eval sl = .slice A n cap) (hx : a.eval x = .slice (some ⟨W.heap.size, 0, none⟩) 1 1)
    (HO : Own W base 3 1 A n cap l) (hbase : base ≤ W.heap.size) (hb : n ≤ 1000)
    (h : ∀ A' cap' w1, Hid (Own w1 base 3 1 A' (n + 1) cap' (l ++ [.int .i64 z])) → Hid (∀ i, ab A' i → ab A i ∨ W.heap.size ≤ i) → Only (ab A) W w1 → wpList Tryz.prog ops Q rest (a.put o.dst (.slice A' (n + 1) cap')) w1) :
    wpList Tryz.prog ops Q (o :: rest) a (W.alloc (.cells #[.int .i64 z] 3)) := by
  have O1 : Only (fun _ => False) W (W.alloc (.cells #[.int .i64 z] 3)) := (Only.refl _ W).alloc _
  refine app_rows hgd sl x 25 3 (.int .i64 0) 1 8 Tryz.underlying25 info_int rfl (by omega) (by omega) ho base _ cap 1 1 A (some ⟨W.heap.size, 0, none⟩) _ [.int .i64 z] hs hx (Own.same HO O1) ?_ rfl (by intro u hu; simp at hu; subst hu; rfl) (fun h => by cases h) (Nat.le_trans hbase O1.size) (by omega) ?_
  · intro _
    refine ⟨W.heap.size, 0, rfl, by simp, fun j u hu => ?_⟩
    rw [b_cell (b_new W _), Nat.zero_add]
    simpa using hu
  · intro A' cap' w1 h2 h3 h4
    refine h A' cap' w1 h2 (hid fun i hi => ?_) ((O1.mono (T := ab A) (fun _ h => h.elim)).trans h4)
    rcases h3.out i hi with h | h
    · exact .inl h
    · simp at h
      exact .inr (by omega)
end

set_option maxRecDepth 100000 in
set_option maxHeartbeats 2000000 in
theorem whole_walk (A : Option Addr) (c : Nat) (ds : List AskD) (cut : Int) (w : World) (hD : Asks w A ds) (hc1 : -9223372036854775808 ≤ cut) (hc2 : cut ≤ 9223372036854775807) (hG : Gl w) :
    Calls Tryz.prog 3 #[.slice A ds.length c, .int .i64 cut] w fun e w' => e = .returned (.bool true) ∧ Only (fun _ => False) w w' := by
  obtain ⟨n, hn⟩ : ∃ n, ds.length = n := ⟨_, rfl⟩
  rw [hn]
  replace hn := hid hn
  go_enter Tryz.func3, Tryz.ntmps3
  go_wp2_with fail
  refine (sound_any w hG).mono ?_
  rintro e w1 ⟨rfl, O1⟩
  by_cases h12 : 12 < n
  · have h12i : (12 : Int) < n := by omega
    go_wp2_with fail
    go_ret
    exact ⟨rfl, O1⟩
  have h12i : decide ((12 : Int) < n) = false := by simp; omega
  have hn12 : n ≤ 12 := by omega
  go_wp2_with fail
  have O2 : Only (fun _ => False) w ((w1.alloc (.cells #[] 5)).alloc (.cells #[] 3)) := (O1.alloc _).alloc _
  have HB0 : OwnB ((w1.alloc (.cells #[] 5)).alloc (.cells #[] 3)) w1.heap.size (some ⟨w1.heap.size, 0, none⟩) 0 (bytesK ds 0) :=
    ⟨rfl, .inr ⟨w1.heap.size, #[], (0, 0), rfl, Nat.le_refl _, b_alloc (b_new _ _) _, .inr rfl, Nat.le_refl _, by decide, rfl, rfl⟩⟩
  have HE0 : Own ((w1.alloc (.cells #[] 5)).alloc (.cells #[] 3)) w1.heap.size 3 1 (some ⟨w1.heap.size + 1, 0, none⟩) 0 0 (endsV ds 0) :=
    ⟨rfl, .inr ⟨w1.heap.size + 1, #[], (0, 0), rfl, by omega, by have := b_new (w1.alloc (.cells #[] 5)) (.cells #[] 3); simpa using this, .inr rfl, Nat.le_refl _, by decide, rfl, rfl⟩⟩
  generalize (w1.alloc (.cells #[] 5)).alloc (.cells #[] 3) = w2 at O2 HB0 HE0 ⊢
  have hdis0 : Hid (∀ i, ab (some (⟨w1.heap.size, 0, none⟩ : Addr)) i → ¬ ab (some (⟨w1.heap.size + 1, 0, none⟩ : Addr)) i) := hid (by
    rintro i ⟨a, h1, h2⟩ ⟨b, h3, h4⟩
    cases h1
    cases h3
    simp only at h2 h4
    omega)
  have hwg := O1.size
  generalize w1.heap.size = g at *
  clear O1
  go_loopw [5, 6, 33] (fun av ev iv wr => ∃ (k L c1 c2 : Nat) (A1 A2 : Option Addr), k ≤ n ∧ av = .slice A1 L c1 ∧ ev = .slice A2 k c2 ∧ iv = .int .i64 (k : Int) ∧ OwnB wr g A1 c1 (bytesK ds k) ∧ Hid ((bytesK ds k).length = L) ∧ Own wr g 3 1 A2 k c2 (endsV ds k) ∧ Hid (∀ i, ab A1 i → ¬ ab A2 i) ∧ Hid (∀ (i : Nat) (d : AskD), i < k → ds[i]? = some d → d.Right) ∧ g ≤ wr.heap.size ∧ Only (fun _ => False) w wr) (fun _ _ iv _ => n - (intOf iv).toNat)
  case atStart => exact ⟨0, 0, 0, 0, _, _, by omega, rfl, rfl, rfl, HB0, rfl, HE0, hdis0, hid (by omega), by have := (HB0.blk g ⟨_, rfl, rfl⟩).2; omega, O2⟩
  case round =>
    clear HB0 HE0 hdis0 O2
    obtain ⟨k, L, c1, c2, A1, A2, hk, rfl, rfl, rfl, HB, hL, HE, hdis, hR, hgs, O⟩ := hrel
    have hL2 := bytesK_len ds k hR.out
    rw [hL.out] at hL2
    by_cases hlt : k < n
    · obtain ⟨d, hd⟩ : ∃ d, ds[k]? = some d := ⟨_, List.getElem?_eq_getElem (by rw [hn.out]; exact hlt)⟩
      obtain ⟨b, off, rfl, hb, a0, a1, a2, a3, a4, a5⟩ := (hD.same O).at_ k d hd
      have hok := hD.ok d (List.mem_of_getElem? hd)
      have hsucc := bytesK_succ ds k d hd
      have hesucc := endsV_succ ds k
      obtain ⟨dm, dp, dn, dv, dA, dbn, dbc, dbody, dsize⟩ := d
      simp only [] at a0 a1 a2 a3 a4 a5
      have Oa : Only (fun _ => False) wr (wr.alloc (.cells #[.string dm, .string dp, .string dn, .string dv, .slice dA dbn dbc, .int .i64 dsize] 27)) := (Only.refl _ wr).alloc _
      have hby := hid (bytes_any dm dp dn dv dA dbn dbc dbody dsize (wr.alloc (.cells #[.string dm, .string dp, .string dn, .string dv, .slice dA dbn dbc, .int .i64 dsize] 27)) (hok.bs.same (O.trans Oa)) hok.hm hok.hp hok.s1 hok.s2 (hG.same (O.trans Oa)))
      have HBa := hid (Own.same HB Oa)
      have HEa := hid (Own.same HE Oa)
      have O' := hid (O.trans Oa)
      have hgs' := hid (Nat.le_trans hgs Oa.size)
      replace hd := hid hd
      replace hsucc := hid hsucc
      replace hesucc := hid hesucc
      clear O Oa HB HE hgs
      go_wp2_with fail
      clear a0 a1 a2 a3 a4 a5
      refine hby.out.mono ?_
      rintro e w3 ⟨hpost, O3⟩
      clear hby
      have HB3 := hid (Own.same HBa.out O3)
      have HE3 := hid (Own.same HEa.out O3)
      have hgs3 := Nat.le_trans hgs'.out O3.size
      have O4 := O'.out.trans O3
      clear O3 HBa HEa hgs' O'
      rcases hpost with rfl | ⟨A', c', rfl, hok2, HA⟩
      · go_wp2_with fail
        go_ret
        exact ⟨rfl, O4⟩
      · replace hok2 := hid hok2
        have hlenA := askB_len ⟨dm, dp, dn, dv, dA, dbn, dbc, dbody, dsize⟩ hok2.out
        unfold AskD.bytes at hlenA
        simp only [] at hlenA
        obtain ⟨bb, hbb⟩ : ∃ bb, askB dm.data.toList (47 :: dp.data.toList) (dn.data.toList, dv.data.toList) dbody dsize = bb := ⟨_, rfl⟩
        rw [hbb] at hlenA HA ⊢
        have hsucc2 : Hid (bytesK ds (k + 1) = bytesK ds k ++ bb) := hid (by rw [hsucc.out, ← hbb]; rfl)
        obtain ⟨bl, hbl⟩ : ∃ bl, bb.length = bl := ⟨_, rfl⟩
        rw [hbl] at hlenA ⊢
        replace hbl := hid hbl
        clear hbb hsucc
        have hrowA := hid HA.row
        have hnilA : Hid (A' = none → bl = 0 ∧ c' = 0) := hid (fun e => by have := HA.bs.nil e; rw [hbl.out] at this; exact this)
        have hb1 := hid HB3.out.blk
        have hb2 := hid HE3.out.blk
        clear HA
        go_wp2_with (first
          | (at_builtin; refine app_bb rfl _ _ rfl g L c1 bl c' A1 A' (bytesK ds k) bb hL.out hbl.out rfl rfl HB3.out hrowA.out hnilA.out hgs3 (by omega) ?_; intro A3 c3 w4 h3 h3' o3; have HE4 := hid (Own.keep HE3.out o3 (fun i hi h => hdis.out i h hi)); have hgs4 := Nat.le_trans hgs3 o3.size)
          | (at_builtin; refine app_i rfl _ _ rfl g k c2 A2 (endsV ds k) _ rfl rfl HE4.out hgs4 (by omega) ?_; intro A5 c5 w5 h5 h5' o5)
          | fail)
        have hb3 := h3.out.blk
        have hdis2 : ∀ i, ab A3 i → ¬ ab A2 i := fun i hi h => by
          rcases h3'.out i hi with h' | h'
          · exact hdis.out i h' h
          · have := (hb2.out i h).2; omega
        have hdis3 : Hid (∀ i, ab A3 i → ¬ ab A5 i) := hid (fun i hi h => by
          rcases h5'.out i h with h' | h'
          · exact hdis2 i hi h'
          · have := (hb3 i hi).2; omega)
        have HB5 := Own.keep h3.out o5 (fun i hi h => hdis2 i hi h)
        have hlen2 : (bytesK ds (k + 1)).length = L + bl := by rw [hsucc2.out, List.length_append, hL.out, hbl.out]
        have O5 := (O4.trans' o3 (fun i hi => .inr (by have := (hb1.out i hi).1; omega))).trans' o5 (fun i hi => .inr (by have := (hb2.out i hi).1; omega))
        have hR2 : Hid (∀ (i : Nat) (d : AskD), i < k + 1 → ds[i]? = some d → d.Right) := hid (fun i d hi hdd => by
          by_cases hik : i = k
          · subst hik
            rw [hd.out] at hdd
            cases hdd
            exact hok2.out
          · exact hR.out i d (by omega) hdd)
        go_roundw
        case rel =>
          refine ⟨k + 1, L + bl, c3, c5, A3, A5, by omega, rfl, rfl, by simp, by rw [hsucc2.out]; exact HB5, hid hlen2, ?_, hdis3, hR2, Nat.le_trans hgs4 o5.size, O5⟩
          rw [hesucc.out, hlen2]
          have e : ((L + bl : Nat) : Int) = (L : Int) + bl := by omega
          rw [e]
          exact h5.out
        case measure => simp [intOf]; omega
    · have hkn : k = n := by omega
      rw [hkn] at HB HE hL hR hL2
      clear hdis
      have hni : ¬ (k : Int) < n := by omega
      have hLm : L ≤ 120000 := by omega
      have hBs : Bs wr A1 L c1 (bytesK ds n) := OwnB.bs' HB hL.out
      have hEr := hid HE.row
      have hAll : ∀ i, ab A1 i → i < wr.heap.size := fun i hi => (HB.blk i hi).2
      replace hBs := hid hBs
      replace hAll := hid hAll
      clear HB HE
      generalize wr = w3 at *
      go_wp2_with fail
      go_loopw [11, 55] (fun av iv wq => ∃ j a : Nat, j ≤ n ∧ iv = .int .i64 (j : Int) ∧ av = .int .i64 (a : Int) ∧ Hid ((bytesK ds j).length = a) ∧ Only (fun _ => False) w3 wq) (fun _ iv _ => n - (intOf iv).toNat)
      case atStart => exact ⟨0, 0, by omega, rfl, rfl, rfl, Only.refl _ _⟩
      case round =>
        obtain ⟨j, a, hj, rfl, rfl, ha, Oq⟩ := hrel
        by_cases hlt2 : j < n
        · obtain ⟨d, hd⟩ : ∃ d, ds[j]? = some d := ⟨_, List.getElem?_eq_getElem (by rw [hn.out]; exact hlt2)⟩
          obtain ⟨b, off, rfl, hb, a0, a1, a2, a3, a4, a5⟩ := (hD.same (O.trans Oq)).at_ j d hd
          have hok := hD.ok d (List.mem_of_getElem? hd)
          have hRj := hR.out j d hlt2 hd
          have hsucc := bytesK_succ ds j d hd
          have hsplit := bytesK_split ds j d hd
          rw [hn.out, ha.out] at hsplit
          obtain ⟨rest, hrest⟩ : ∃ rest, List.flatMap AskD.bytes (List.drop (j + 1) ds) = rest := ⟨_, rfl⟩
          rw [hrest] at hsplit
          have hlen := congrArg List.length hsplit
          obtain ⟨N, hN⟩ : ∃ N, d.bytes.length = N := ⟨_, rfl⟩
          have hNp : 0 < N := by
            rw [← hN]
            unfold AskD.bytes
            rw [askB_eq, List.length_append, headB_len]
            omega
          have hN2 : N ≤ 10000 := by rw [← hN]; exact askB_len d hRj
          have hend : (bytesK ds (j + 1)).length = a + N := by rw [hsucc, List.length_append, ha.out, hN]
          have haN : a + N ≤ L := by
            rw [List.length_drop, hL.out, List.length_append, hN] at hlen
            omega
          have hreq : requestF ((bytesK ds n).drop a) = ((d.m.data.toList, 47 :: d.p.data.toList, 1), askFs (d.n.data.toList, d.v.data.toList) d.body d.size, d.body, N, 0) := by
            rw [hsplit, ← hN]
            exact request_whole hRj d.size rest
          have hpart : ∀ q, q < N → (requestF (((bytesK ds n).drop a).take q)).2.2.2 = (0, 0) := fun q hq => by
            rw [hsplit]
            exact request_part hRj d.size rest q (by rw [← hN] at hq; exact hq)
          clear hsplit hlen hrest hsucc hN rest
          have hfl : (askFs (d.n.data.toList, d.v.data.toList) d.body d.size).length = 3 := by unfold askFs; split <;> rfl
          have hf1 : (askFs (d.n.data.toList, d.v.data.toList) d.body d.size)[1]? = some (d.n.data.toList, d.v.data.toList) := by unfold askFs; split <;> rfl
          obtain ⟨dm, dp, dn, dv, dA, dbn, dbc, dbody, dsize⟩ := d
          simp only [] at a0 a1 a2 a3 a4 a5 hreq hfl hf1
          obtain ⟨fs, hfs⟩ : ∃ fs, askFs (dn.data.toList, dv.data.toList) dbody dsize = fs := ⟨_, rfl⟩
          rw [hfs] at hreq hfl hf1
          replace hreq := hid hreq
          replace hpart := hid hpart
          replace hfl := hid hfl
          replace hf1 := hid hf1
          replace hend := hid hend
          replace hd := hid hd
          have hRj2 : AskOK dm.data.toList (47 :: dp.data.toList) (dn.data.toList, dv.data.toList) dbody := hRj
          have hp300 : dp.size ≤ 300 := by have := hRj2.ht3; simp at this; omega
          have hb1000 : dbn ≤ 1000 := by
            have h1 := hok.bs.len
            have h2 := hRj2.hb
            simp only at h1
            omega
          clear hfs hRj hRj2
          have Oa : Only (fun _ => False) wr (wr.alloc (.cells #[.string dm, .string dp, .string dn, .string dv, .slice dA dbn dbc, .int .i64 dsize] 27)) := (Only.refl _ wr).alloc _
          have hBd := ((hBs.out.same (Oq.trans Oa)).drop a (by omega))
          have hBd2 := hid hBd
          have hAd : ∀ i, ab (dropA A1 c1 a) i → i < w3.heap.size := by
            rintro i ⟨x, h, rfl⟩
            unfold dropA at h
            split at h
            · exact hAll.out _ ⟨_, h, rfl⟩
            · obtain ⟨x0, h0, rfl⟩ := Option.map_eq_some_iff.1 h
              have e : (x0.add a).block = x0.block := by unfold Addr.add; split <;> rfl
              rw [e]
              exact hAll.out _ ⟨_, h0, rfl⟩
          have hR1 := request_any (dropA A1 c1 a) (L - a) (c1 - a) ((bytesK ds n).drop a) _ hBd (fun i hi => Nat.lt_of_lt_of_le (hAd i hi) (Oq.trans Oa).size) (by omega) (hG.same ((O.trans Oq).trans Oa))
          rw [hreq.out] at hR1
          simp only [] at hR1
          rw [hfl.out] at hR1
          have hLc : L ≤ c1 := hBs.out.le
          have sl1 := run_l A1 L c1 a (by omega)
          have sl1' := run_l' A1 L c1 a (by omega)
          have O5 := hid ((O.trans Oq).trans Oa)
          have O5q := hid (Oq.trans Oa)
          have H13 := hid (b_new wr (.cells #[.string dm, .string dp, .string dn, .string dv, .slice dA dbn dbc, .int .i64 dsize] 27))
          replace hAd := hid hAd
          replace hR1 := hid hR1
          clear Oa hBd
          go_wp2_with fail
          refine hR1.out.mono ?_
          rintro e w5 ⟨F, cf, D, cd, rfl, HF, HD, O6⟩
          clear hR1 a0 a1 a2 a3 a4 a5 sl1 sl1'
          have H13' := O6.keep H13.out (fun h => h)
          have O7 := O5.out.trans O6
          have O7q := O5q.out.trans O6
          obtain ⟨bl, hbl⟩ : ∃ bl, dbody.length = bl := ⟨_, rfl⟩
          rw [hbl]
          have hbl2 : Hid (dbn = bl) := hid (by rw [← hbl]; exact hok.bs.len.symm)
          have hDb : Bs w5 D bl cd dbody := OwnB.bs' HD hbl
          have hHFr : Row w5 F (fV fs) := HF.row
          replace hDb := hid hDb
          replace hHFr := hid hHFr
          replace hbl := hid hbl
          clear H13 O5 O5q HF HD O6
          go_upto_region 21 with (fail)
          have Or : Only (fun _ => False) w5 (w5.alloc (.cells #[.string (B dm.data.toList), .string (B (47 :: dp.data.toList)), .int .i64 1, .slice F 3 cf, .slice D bl cd] 32)) := (Only.refl _ w5).alloc _
          have H14 := b_new w5 (.cells #[.string (B dm.data.toList), .string (B (47 :: dp.data.toList)), .int .i64 1, .slice F 3 cf, .slice D bl cd] 32)
          replace H13' := b_alloc H13' (.cells #[.string (B dm.data.toList), .string (B (47 :: dp.data.toList)), .int .i64 1, .slice F 3 cf, .slice D bl cd] 32)
          replace O7 := O7.trans Or
          replace O7q := O7q.trans Or
          have hDb2 := hDb.out.same Or
          have hFr2 := hHFr.out.same Or
          clear Or hDb hHFr
          generalize w5.alloc (.cells #[.string (B dm.data.toList), .string (B (47 :: dp.data.toList)), .int .i64 1, .slice F 3 cf, .slice D bl cd] 32) = w6 at *
          generalize w5.heap.size = g14 at *
          generalize wr.heap.size = g13 at *
          rw [show B dm.data.toList = dm from rfl] at H14
          obtain ⟨tb, htb⟩ : ∃ tb, B (47 :: dp.data.toList) = tb := ⟨_, rfl⟩
          rw [htb] at H14
          have p1 : ∀ w, (Op.stringOp .add ⟨#[47]⟩ dp).run Tryz.prog w = .ok (.string tb) w := fun w => by
            have e : (⟨#[47]⟩ : ByteArray) ++ dp = tb := by rw [← htb]; apply ByteArray.ext; simp [ByteArray.data_append]
            rw [← e]
            exact run_string_add_sum w _ _ (by show 1 + dp.size ≤ _; omega)
          clear htb
          obtain ⟨⟨d0, d1, d2, d3, d4⟩, _⟩ := cells5 H14
          have i0 := b_cell H13' 0
          have i1 := b_cell H13' 1
          have i3 := b_cell H13' 3
          have i4 := b_cell H13' 4
          simp only [List.getElem?_toArray, List.getElem?_cons_zero, List.getElem?_cons_succ] at i0 i1 i3 i4
          have hEe := (hEr.out.same O7q).at_ j _ (endsV_at ds n j hlt2)
          rw [hend.out, show ((a + N : Nat) : Int) = (a : Int) + N by omega] at hEe
          obtain ⟨eb, eo, rfl, _, ee⟩ := hEe
          obtain ⟨fb, foff, rfl, _, _, fv⟩ := fld_at hFr2 1 _ hf1.out
          simp only [] at fv
          rw [show B dv.data.toList = dv from rfl] at fv
          have hBa := hok.bs.same O7
          simp only [] at hBa
          have st1 := fun k => (hDb2.same (Only.drewN (Only.refl (fun _ => False) w6) k)).str
          have st2 := fun k => (hBa.same (Only.drewN (Only.refl (fun _ => False) w6) k)).str
          replace hDb2 := hid hDb2
          replace hBa := hid hBa
          replace hFr2 := hid hFr2
          have hwrap : IntKind.i64.wrap ((a : Int) + (N : Int)) = (a : Int) + (N : Int) := by rw [IntKind.wrap_i64]; omega
          go_quiet (fail)
          clear hwrap
          have O8 := O7.drewN nq
          have O8q := O7q.drewN nq
          clear d0 d1 d2 d3 d4 i0 i1 i3 i4 ee fv st1 st2 H13' H14 p1 O7 O7q hDb2 hBa hFr2
          generalize w6.drewN nq = w7 at O8 O8q ⊢
          have m0 : 0 ≤ cut % 1048576 := Int.emod_nonneg _ (by decide)
          have m1 : cut % 1048576 < 1048576 := Int.emod_lt_of_pos _ (by decide)
          obtain ⟨mm, hmm⟩ := Int.eq_ofNat_of_zero_le m0
          have hand : bits .and .i64 cut 1048575 = (mm : Int) := by rw [and_1048575, hmm]
          clear m0 hmm
          obtain ⟨q, hq⟩ : ∃ q, mm % N = q := ⟨_, rfl⟩
          have hqN : q < N := by rw [← hq]; exact Nat.mod_lt _ hNp
          have hqi : (mm : Int) % (N : Int) = (q : Int) := by rw [← hq]; omega
          have hqt : (mm : Int).tmod (N : Int) = (q : Int) := by rw [Int.tmod_eq_emod_of_nonneg (by omega)]; exact hqi
          replace hq := hid hq
          have hNz : ¬ (N : Int) = 0 := by omega
          go_upto_region 24 with (fail)
          clear hand hqi hqt hNz m1
          have hP := hpart.out q hqN
          have hBq := ((hBs.out.same O8q).drop a (by omega)).take q (by omega)
          have hR2 := request_any (dropA A1 c1 a) q (c1 - a) (((bytesK ds n).drop a).take q) w7 hBq (fun i hi => Nat.lt_of_lt_of_le (hAd.out i hi) O8q.size) (by omega) (hG.same O8)
          generalize requestF (((bytesK ds n).drop a).take q) = rx at hP hR2
          obtain ⟨⟨x1, x2, x3⟩, x4, x5, x6, x7⟩ := rx
          simp only [Prod.mk.injEq] at hP
          obtain ⟨rfl, rfl⟩ := hP
          simp only [] at hR2
          have sl := run_lh A1 L c1 a (a + q) (by omega) (by omega)
          have sl' := run_lh' A1 L c1 a (a + q) (by omega) (by omega)
          rw [Nat.add_sub_cancel_left, show ((a + q : Nat) : Int) = (a : Int) + (q : Int) by omega] at sl sl'
          replace hR2 := hid hR2
          replace hBq := hid hBq
          go_wp2_with fail
          refine hR2.out.mono ?_
          rintro e w8 ⟨F2, cf2, D2, cd2, rfl, HF2, HD2, O9⟩
          clear hR2 sl sl' HF2 HD2
          have O10 := hid ((O8q.trans O9).alloc (.cells #[.string (B x1), .string (B x2), .int .i64 x3, .slice F2 x4.length cf2, .slice D2 x5.length cd2] 32))
          go_wp2_with fail
          go_roundw
          case rel => exact ⟨j + 1, a + N, by omega, by simp, by simp, hend, O10.out⟩
          case measure => simp [intOf]; omega
        · have hjn : j = n := by omega
          have hja : a = L := by
            have h1 := ha.out
            rw [hjn, hL.out] at h1
            exact h1.symm
          have hnj : ¬ (j : Int) < n := by omega
          have hBe := (hBs.out.same Oq).drop a (by omega)
          have hde : (bytesK ds n).drop a = [] := List.drop_of_length_le (by rw [hL.out]; omega)
          rw [hde] at hBe
          have hAd : ∀ i, ab (dropA A1 c1 a) i → i < w3.heap.size := by
            rintro i ⟨x, h, rfl⟩
            unfold dropA at h
            split at h
            · exact hAll.out _ ⟨_, h, rfl⟩
            · obtain ⟨x0, h0, rfl⟩ := Option.map_eq_some_iff.1 h
              have e : (x0.add a).block = x0.block := by unfold Addr.add; split <;> rfl
              rw [e]
              exact hAll.out _ ⟨_, h0, rfl⟩
          have hR2 := request_any (dropA A1 c1 a) (L - a) (c1 - a) [] _ hBe (fun i hi => Nat.lt_of_lt_of_le (hAd i hi) Oq.size) (by omega) (hG.same (O.trans Oq))
          have hP := request_nil
          generalize requestF [] = rx at hP hR2
          obtain ⟨⟨x1, x2, x3⟩, x4, x5, x6, x7⟩ := rx
          simp only [Prod.mk.injEq] at hP
          obtain ⟨rfl, rfl⟩ := hP
          simp only [] at hR2
          have sl := run_l A1 L c1 a (by omega)
          have sl' := run_l' A1 L c1 a (by omega)
          have O11 := hid (O.trans Oq)
          replace hR2 := hid hR2
          replace hBe := hid hBe
          replace hja := hid hja
          replace hjn := hid hjn
          go_wp2_with fail
          refine hR2.out.mono ?_
          rintro e w8 ⟨F2, cf2, D2, cd2, rfl, HF2, HD2, O9⟩
          clear hR2 sl sl' HF2 HD2
          have O10 := hid ((O11.out.trans O9).alloc (.cells #[.string (B x1), .string (B x2), .int .i64 x3, .slice F2 x4.length cf2, .slice D2 x5.length cd2] 32))
          go_wp2_with fail
          go_ret
          exact ⟨rfl, O10.out⟩
end Go.Proofs.YtnijoifiliaebaaGreatDoor
