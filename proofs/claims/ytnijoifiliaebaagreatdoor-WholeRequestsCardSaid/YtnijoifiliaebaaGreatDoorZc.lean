/-
  Ask.bytes: a request's bytes.
-/
import Derived.Test.YtnijoifiliaebaaGreatDoorZb
import Derived.Deep.AppendLies
import Derived.Deep.RegionLaw
namespace Go.Proofs.YtnijoifiliaebaaGreatDoor
open Go.RowKit

def BytesPost (m p n v body : List UInt8) (size : Int) (w : World) (e : Ending) (w' : World) : Prop :=
  (e = .returned (.tuple #[.slice none 0 0, .bool false]) ∨ ∃ A' c', e = .returned (.tuple #[.slice A' (askB m (47 :: p) (n, v) body size).length c', .bool true]) ∧ AskOK m (47 :: p) (n, v) body ∧ OwnB w' w.heap.size A' c' (askB m (47 :: p) (n, v) body size)) ∧ Only (fun _ => False) w w'
theorem BytesPost.no {m p n v body : List UInt8} {size : Int} {w w' : World} (o : Only (fun _ => False) w w') : BytesPost m p n v body size w (.returned (.tuple #[.slice none 0 0, .bool false])) w' := ⟨.inl rfl, o⟩

/-- append(fs, f), at a step of a region that draws its order. -/
theorem step_f {ops : Array Oper} {o : Oper} {a : Act} {W : World} {K : Act → World → Prop} {Q : Exit → Act → World → Prop} {E : Prop} (hgd : o.guard = none) (sl x : Operand) (ho : o.op = .call { callee := .builtin .append, args := #[sl, x], argTypes := #[30, 30] })
    (base n cap : Nat) (A : Option Addr) (l : List FD) (s v : ByteArray) (hl : l.length = n) (hs : a.eval sl = .slice A n cap) (g : Nat) (hx : a.eval x = .slice (some ⟨g, 0, none⟩) 1 1) (hg : W.heap[g]? = some (.cells #[.string s, .string v] 36 (0, 0)))
    (HO : OwnF W base A cap l) (hbase : base ≤ W.heap.size) (hb : n + 1 ≤ 4398046511104)
    (h : ∀ A' cap' w1, Hid (OwnF w1 base A' cap' (l ++ [(s.data.toList, v.data.toList)])) → Hid (∀ i, ab A' i → ab A i ∨ W.heap.size ≤ i) → Only (ab A) W w1 → K (a.put o.dst (.slice A' (n + 1) cap')) w1) :
    if Region.wanted o (yielded ops a.tmps) = true then Oper.wp Tryz.prog o a W K Q else E := by
  have hw : Region.wanted o (yielded ops a.tmps) = true := by simp [Region.wanted, hgd]
  rw [if_pos hw]
  subst hl
  obtain ⟨i0, hi, hz0, hz1, hz2⟩ := info_split info_fld
  have HS : Row W (some ⟨g, 0, none⟩) (fV [(s.data.toList, v.data.toList)]) := by
    intro _
    refine ⟨g, 0, rfl, b_lt hg, fun j u hu => ?_⟩
    rw [b_cell hg, Nat.zero_add]
    simpa [fV] using hu
  obtain ⟨A', c', w', hr, h2, h3, h4⟩ := run_app_row (P := Tryz.prog) W base 30 o.type 36 i0 (.agg #[.string ⟨#[]⟩, .string ⟨#[]⟩]) 2 32 Tryz.underlying30 hi hz0 hz1 hz2 rfl (by omega) A _ cap _ HO (some ⟨g, 0, none⟩) 1 1 _ rfl HS (fun h => by cases h) (fV_one _) (by unfold maxLen; omega) (by omega) hbase
  unfold Oper.wp execOp
  simp only [ho, resolve, invoke, builtin, Sem.run_bind, Sem.run_pure, Result.andThen_ok, List.map_toArray, List.map_cons, List.map_nil, hs, hx, hr]
  refine h A' c' w' ?_ (hid h4) h3
  unfold OwnF Hid
  rw [List.length_append, fV_app]
  exact h2
/-- A call of a Go function with one argument, at a step of a region that draws its order. -/
theorem step_call {ops : Array Oper} {o : Oper} {a : Act} {W : World} {K : Act → World → Prop} {Q : Exit → Act → World → Prop} {E : Prop} (hgd : o.guard = none) (f : FuncId) (x : Operand) (ts : Array TypeId) (ho : o.op = .call { callee := .value (.func f), args := #[x], argTypes := ts })
    (he : ∀ args w, (callFunc f args).run Tryz.prog w = .ok (.enter f args) w) (v r : Value) (hx : a.eval x = v) (S : World → Prop) (hc : Calls Tryz.prog f #[v] W fun e w' => e = .returned r ∧ S w') (h : ∀ w', S w' → K (a.put o.dst r) w') :
    if Region.wanted o (yielded ops a.tmps) = true then Oper.wp Tryz.prog o a W K Q else E := by
  have hw : Region.wanted o (yielded ops a.tmps) = true := by simp [Region.wanted, hgd]
  rw [if_pos hw]
  have hr : (execOp a.eval o).run Tryz.prog W = .ok (.enter f #[v]) W := by
    have hfn : a.eval (.func f) = .func (.func f) #[] #[] := rfl
    simp [execOp, ho, resolve, invoke, hfn, hx, Deferred.ofValue, he]
  unfold Oper.wp
  rw [hr, Oper.upon_enter]
  refine hc.mono ?_
  rintro e w' ⟨rfl, hs⟩
  exact h w' hs
theorem pieces_len (ps : List (List UInt8)) (h : Pieces ps) : (ps.flatMap chunkB).length ≤ 7 * ps.flatten.length := by
  induction ps with
  | nil => simp
  | cons p ps ih =>
    have h1 := chunkB_len p (by have := (h p (by simp)).1; omega)
    have h2 := ih (fun x hx => h x (by simp [hx]))
    rw [List.flatMap_cons, List.length_append, List.flatten_cons, List.length_append]
    omega
theorem encF_le (z : Nat) (l : List UInt8) (hz : 1 ≤ z) (hl : l.length ≤ 1000) : (encF z l).length ≤ 7005 := by
  obtain ⟨h1, h2⟩ := chunks_pieces z hz l.length l (Nat.le_refl _) hl
  have := pieces_len _ h1
  rw [encF_len]
  rw [h2] at this
  omega
set_option maxRecDepth 100000 in
set_option maxHeartbeats 2000000 in
theorem bytes_any (mb pb nb vb : ByteArray) (A : Option Addr) (bn bc : Nat) (body : List UInt8) (size : Int) (w : World) (hB : Bs w A bn bc body)
    (hm1 : mb.size ≤ 9223372036854775807) (hp1 : pb.size ≤ 9223372036854775806) (hs1 : -9223372036854775808 ≤ size) (hs2 : size ≤ 9223372036854775807) (hG : Gl w) :
    Calls Tryz.prog 5 #[.agg #[.string mb, .string pb, .string nb, .string vb, .slice A bn bc, .int .i64 size]] w (BytesPost mb.data.toList pb.data.toList nb.data.toList vb.data.toList body size w) := by
  have hbl := hid hB.len
  obtain ⟨tb, htb⟩ : ∃ tb, (⟨#[47]⟩ : ByteArray) ++ pb = tb := ⟨_, rfl⟩
  have htd : tb.data.toList = 47 :: pb.data.toList := by rw [← htb]; simp [ByteArray.data_append]
  have hts : tb.size = pb.size + 1 := by rw [← htb, ByteArray.size_append]; show 1 + pb.size = _; omega
  have p1 : ∀ w, (Op.stringOp .add ⟨#[47]⟩ pb).run Tryz.prog w = .ok (.string tb) w := fun w => by
    rw [← htb]
    exact run_string_add_sum w _ _ (by show 1 + pb.size ≤ _; omega)
  have hts1 : tb.size ≤ 9223372036854775807 := by omega
  replace htd := hid htd
  replace hts := hid hts
  clear htb
  obtain ⟨g, hg⟩ : ∃ g, w.heap.size = g := ⟨_, rfl⟩
  have H0 := b_new w (.cells #[.string mb, .string pb, .string nb, .string vb, .slice A bn bc, .int .i64 size] 27)
  have O0 := (Only.refl (fun _ => False) w).alloc (.cells #[.string mb, .string pb, .string nb, .string vb, .slice A bn bc, .int .i64 size] 27)
  have H1 := b_new (w.alloc (.cells #[.string mb, .string pb, .string nb, .string vb, .slice A bn bc, .int .i64 size] 27)) (.cells #[.string nb, .string vb] 36)
  have H01 := b_alloc H0 (.cells #[.string nb, .string vb] 36)
  have O1 := O0.alloc (.cells #[.string nb, .string vb] 36)
  have hz : (w.alloc (.cells #[.string mb, .string pb, .string nb, .string vb, .slice A bn bc, .int .i64 size] 27)).heap.size = g + 1 := by simp; omega
  rw [hz] at H1
  go_enter Tryz.func5, Tryz.ntmps5
  go_upto_region 2 with (fail)
  clear O0 H0 hz
  generalize (w.alloc (.cells #[.string mb, .string pb, .string nb, .string vb, .slice A bn bc, .int .i64 size] 27)).alloc (.cells #[.string nb, .string vb] 36) = w1 at *
  rw [hg] at H01
  have hgw : w.heap.size ≤ g := by omega
  have cells6 : ∀ W : World, W.heap[g]? = some (.cells #[.string mb, .string pb, .string nb, .string vb, .slice A bn bc, .int .i64 size] 27 (0, 0)) → W.cell? ⟨g, 0, none⟩ = some (.string mb) ∧ W.cell? ⟨g, 1, none⟩ = some (.string pb) ∧ W.cell? ⟨g, 2, none⟩ = some (.string nb) ∧ W.cell? ⟨g, 3, none⟩ = some (.string vb) ∧ W.cell? ⟨g, 4, none⟩ = some (.slice A bn bc) ∧ W.cell? ⟨g, 5, none⟩ = some (.int .i64 size) := fun W h => ⟨b_cell h 0, b_cell h 1, b_cell h 2, b_cell h 3, b_cell h 4, b_cell h 5⟩
  replace cells6 := hid cells6
  obtain ⟨c0, c1, c2, c3, c4, c5⟩ := cells6.out _ H01
  obtain ⟨d0, d1, _, _⟩ := cells2 H1
  go_wp2_with fail
  refine (token_any mb hm1 _).mono ?_
  rintro e w2 ⟨rfl, rfl⟩
  cases hT : token mb.data.toList
  · replace hT := hid hT
    go_wp2_with fail
    go_ret2
    exact BytesPost.no O1
  replace hT := hid hT
  by_cases h20 : 20 < mb.size
  · have h20i : (20 : Int) < mb.size := by omega
    go_wp2_with fail
    go_ret2
    exact BytesPost.no O1
  have h20i : decide ((20 : Int) < mb.size) = false := by simp; omega
  go_wp2_with fail
  refine (target_any tb hts1 _).mono ?_
  rintro e w2 ⟨rfl, rfl⟩
  cases hTg : target tb.data.toList
  · replace hTg := hid hTg
    go_wp2_with fail
    go_ret2
    exact BytesPost.no O1
  replace hTg := hid hTg
  by_cases h300 : 300 < pb.size
  · have h300i : (300 : Int) < pb.size := by omega
    go_wp2_with fail
    go_ret2
    exact BytesPost.no O1
  have h300i : decide ((300 : Int) < pb.size) = false := by simp; omega
  by_cases h1000 : 1000 < bn
  · have h1000i : (1000 : Int) < bn := by omega
    go_wp2_with fail
    go_ret2
    exact BytesPost.no O1
  have h1000i : decide ((1000 : Int) < bn) = false := by simp; omega
  have hR1 : Row (w1.alloc (.cells #[.string nb, .string vb] 36)) (some ⟨w1.heap.size, 0, none⟩) (fV [(nb.data.toList, vb.data.toList)]) := by
    intro _
    refine ⟨w1.heap.size, 0, rfl, by simp, fun j u hu => ?_⟩
    rw [b_cell (b_new w1 _), Nat.zero_add]
    simpa [fV] using hu
  have hr : Calls Tryz.prog 12 #[.slice (some ⟨w1.heap.size, 0, none⟩) 1 1] (w1.alloc (.cells #[.string nb, .string vb] 36)) _ := right_all [(nb.data.toList, vb.data.toList)] (some ⟨w1.heap.size, 0, none⟩) 1 _ hR1 (by simp)
  replace H1 := b_alloc H1 (.cells #[.string nb, .string vb] 36)
  replace H01 := b_alloc H01 (.cells #[.string nb, .string vb] 36)
  replace O1 := O1.alloc (.cells #[.string nb, .string vb] 36)
  replace hr := hid hr
  go_wp2_with fail
  refine hr.out.mono ?_
  rintro e w2 ⟨rfl, O2⟩
  replace H1 := O2.keep H1 (fun h => h)
  replace H01 := O2.keep H01 (fun h => h)
  replace O1 := O1.trans O2
  clear hr hR1 O2 c0 c1 c2 c3 c4 c5 d0 d1
  obtain ⟨c0, c1, c2, c3, c4, c5⟩ := cells6.out _ H01
  obtain ⟨d0, d1, _, _⟩ := cells2 H1
  simp only [List.all_cons, List.all_nil, Bool.and_true]
  cases hrr : right nb.data.toList vb.data.toList
  · replace hrr := hid hrr
    go_wp2_with fail
    go_ret2
    exact BytesPost.no O1
  obtain ⟨q1, q2, q3, q4, q5⟩ := right_parts hrr
  rw [show nb.data.toList.length = nb.size by simp] at q1
  rw [show vb.data.toList.length = vb.size by simp] at q3
  replace q2 := hid q2
  replace q4 := hid q4
  replace q5 := hid q5
  replace hrr := hid hrr
  by_cases hsum : 1000 < nb.size + vb.size
  · have hsi : (1000 : Int) < (nb.size : Int) + vb.size := by omega
    go_wp2_with fail
    go_ret2
    exact BytesPost.no O1
  have hsi : decide ((1000 : Int) < (nb.size : Int) + vb.size) = false := by simp; omega
  go_wp2_with fail
  refine (fold_any nb (by omega) _).mono ?_
  rintro e w3 ⟨rfl, O3⟩
  replace H1 := O3.keep H1 (fun h => h)
  replace H01 := O3.keep H01 (fun h => h)
  replace O1 := O1.trans O3
  clear O3 c0 c1 c2 c3 c4 c5 d0 d1 h20i h300i h1000i hsi
  obtain ⟨c0, c1, c2, c3, c4, c5⟩ := cells6.out _ H01
  obtain ⟨d0, d1, _, _⟩ := cells2 H1
  obtain ⟨fo, hfo⟩ : ∃ fo, fold nb.data.toList = fo := ⟨_, rfl⟩
  rw [hfo]
  replace hfo := hid hfo
  have hk : ∀ l : List UInt8, ((B fo).toList == l) = decide (fo = l) := fun l => by
    rw [ByteArray.toList_eq]
    show (fo == l) = _
    rw [Bool.eq_iff_iff]
    simp
  by_cases e1 : fo = [104, 111, 115, 116]
  · have k1 : (fo == ([104, 111, 115, 116] : List UInt8)) = true := by simpa using e1
    clear hk
    replace e1 := hid e1
    go_wp2_with fail
    go_ret2
    exact BytesPost.no O1
  have k1 : (fo == ([104, 111, 115, 116] : List UInt8)) = false := by simpa using e1
  by_cases e2 : fo = [99, 111, 110, 116, 101, 110, 116, 45, 108, 101, 110, 103, 116, 104]
  · have k2 : (fo == ([99, 111, 110, 116, 101, 110, 116, 45, 108, 101, 110, 103, 116, 104] : List UInt8)) = true := by simpa using e2
    clear hk
    replace e1 := hid e1
    replace e2 := hid e2
    go_wp2_with fail
    go_ret2
    exact BytesPost.no O1
  have k2 : (fo == ([99, 111, 110, 116, 101, 110, 116, 45, 108, 101, 110, 103, 116, 104] : List UInt8)) = false := by simpa using e2
  by_cases e3 : fo = [116, 114, 97, 110, 115, 102, 101, 114, 45, 101, 110, 99, 111, 100, 105, 110, 103]
  · have k3 : (fo == ([116, 114, 97, 110, 115, 102, 101, 114, 45, 101, 110, 99, 111, 100, 105, 110, 103] : List UInt8)) = true := by simpa using e3
    clear hk
    replace e1 := hid e1
    replace e2 := hid e2
    replace e3 := hid e3
    go_wp2_with fail
    go_ret2
    exact BytesPost.no O1
  have k3 : (fo == ([116, 114, 97, 110, 115, 102, 101, 114, 45, 101, 110, 99, 111, 100, 105, 110, 103] : List UInt8)) = false := by simpa using e3
  clear hk
  have hother : Hid (Other nb.data.toList) := hid (by unfold Other; rw [hfo.out]; exact ⟨e1, e2, e3⟩)
  replace e1 := hid e1
  replace e2 := hid e2
  replace e3 := hid e3
  have H02 := b_alloc H01 (.cells #[.string ⟨#[104, 111, 115, 116]⟩, .string ⟨#[104]⟩, .string nb, .string vb] 36)
  have HS := b_new w3 (.cells #[.string ⟨#[104, 111, 115, 116]⟩, .string ⟨#[104]⟩, .string nb, .string vb] 36)
  have O2 := O1.alloc (.cells #[.string ⟨#[104, 111, 115, 116]⟩, .string ⟨#[104]⟩, .string nb, .string vb] 36)
  have hz2 : (w3.alloc (.cells #[.string ⟨#[104, 111, 115, 116]⟩, .string ⟨#[104]⟩, .string nb, .string vb] 36)).heap.size = w3.heap.size + 1 := by simp
  obtain ⟨_, _, _, _, a4, _⟩ := cells6.out _ H02
  have hg3 := b_lt H1
  go_upto_region 10 with (fail)
  clear c0 c1 c2 c3 c4 c5 d0 d1
  have HR := b_new (w3.alloc (.cells #[.string ⟨#[104, 111, 115, 116]⟩, .string ⟨#[104]⟩, .string nb, .string vb] 36)) (.cells #[.string mb, .string tb, .int .i64 1, .slice (some ⟨w3.heap.size, 0, none⟩) 2 2, .slice A bn bc] 32)
  have HS2 := b_alloc HS (.cells #[.string mb, .string tb, .int .i64 1, .slice (some ⟨w3.heap.size, 0, none⟩) 2 2, .slice A bn bc] 32)
  have H03 := b_alloc H02 (.cells #[.string mb, .string tb, .int .i64 1, .slice (some ⟨w3.heap.size, 0, none⟩) 2 2, .slice A bn bc] 32)
  have O3 := O2.alloc (.cells #[.string mb, .string tb, .int .i64 1, .slice (some ⟨w3.heap.size, 0, none⟩) 2 2, .slice A bn bc] 32)
  have hz3 : ((w3.alloc (.cells #[.string ⟨#[104, 111, 115, 116]⟩, .string ⟨#[104]⟩, .string nb, .string vb] 36)).alloc (.cells #[.string mb, .string tb, .int .i64 1, .slice (some ⟨w3.heap.size, 0, none⟩) 2 2, .slice A bn bc] 32)).heap.size = w3.heap.size + 2 := by simp
  rw [hz2] at HR
  clear a4 H1 H01 H02 HS O1 O2 hz2
  generalize ((w3.alloc (.cells #[.string ⟨#[104, 111, 115, 116]⟩, .string ⟨#[104]⟩, .string nb, .string vb] 36)).alloc (.cells #[.string mb, .string tb, .int .i64 1, .slice (some ⟨w3.heap.size, 0, none⟩) 2 2, .slice A bn bc] 32)) = w5 at *
  generalize w3.heap.size = h at *
  have HO : OwnF w5 (g + 1) (some ⟨h, 0, none⟩) 2 [(sHost0, sh1), (nb.data.toList, vb.data.toList)] :=
    ⟨rfl, .inr ⟨h, _, (0, 0), rfl, by omega, HS2, .inr rfl, Nat.le_refl _, by decide, rfl, rfl⟩⟩
  have hG5 := hid (hG.same O3)
  have hBb := hid (hB.same O3)
  obtain ⟨k0, hk0⟩ : ∃ k0 : Nat, k0 = 2 := ⟨2, rfl⟩
  rw [← hk0] at HR HO
  have hk2 : k0 ≤ 2 := by omega
  replace hk0 := hid hk0
  obtain ⟨c0, c1, c2, c3, c4, c5⟩ := cells6.out _ H03
  obtain ⟨⟨d0, d1, d2, d3, d4⟩, f0, f1, f2, f3, f4⟩ := cells5 HR
  have hws := O3.size
  have hw5 : g + 1 ≤ w5.heap.size := by omega
  have hh5 : h + 1 < w5.heap.size := by omega
  replace hz3 := hid hz3
  have hAsk : Hid (AskOK mb.data.toList (47 :: pb.data.toList) (nb.data.toList, vb.data.toList) body) := hid ⟨hT.out, by simp; omega, by rw [← htd.out]; exact hTg.out, rfl, by simp; omega, hrr.out, by simp; omega, hother.out, by rw [hbl.out]; omega⟩
  replace HO := hid HO
  replace HS2 := hid HS2
  replace hB := hid hB
  by_cases hsz : 0 < size
  · obtain ⟨z, rfl⟩ := Int.eq_ofNat_of_zero_le (show 0 ≤ size by omega)
    have hz1 : 1 ≤ z := by omega
    have hasb : Hid (askB mb.data.toList (47 :: pb.data.toList) (nb.data.toList, vb.data.toList) body (z : Int) = writeF (reqLineF mb.data.toList tb.data.toList 1) ([(sHost0, sh1), (nb.data.toList, vb.data.toList)] ++ [(sTE, sChunked)]) (encF z body)) := hid (by
      unfold askB askFs askBody
      rw [if_pos hsz, if_pos hsz, htd.out]
      rfl)
    have henc := encF_le z body hz1 (by rw [hbl.out]; omega)
    go_wp2_with (first | (at_builtin; refine app_f rfl _ _ rfl (g + 1) k0 k0 (some ⟨h, 0, none⟩) [(sHost0, sh1), (nb.data.toList, vb.data.toList)] ⟨#[84, 114, 97, 110, 115, 102, 101, 114, 45, 69, 110, 99, 111, 100, 105, 110, 103]⟩ ⟨#[99, 104, 117, 110, 107, 101, 100]⟩ hk0.out.symm rfl rfl HO.out (by omega) (by omega) ?_; intro A3 cp6 w6 h3 h3' o3; have HR6 := o3.keep HR (by rintro ⟨b, hb, e⟩; cases hb; simp at e); have H06 := o3.keep H03 (by rintro ⟨b, hb, e⟩; cases hb; simp only at e; omega); obtain ⟨⟨d0', d1', d2', d3', d4'⟩, f0', f1', f2', f3', f4'⟩ := cells5 HR6; obtain ⟨c0', c1', c2', c3', c4', c5'⟩ := cells6.out _ H06) | fail)
    have hHR7 := b_set HR6 3 (.slice A3 (k0 + 1) cp6)
    have O6 := O3.trans' o3 (fun i hi => .inr (by obtain ⟨b, hb, e⟩ := hi; cases hb; simp only at e; omega))
    have O7 := O6.setCell (p := ⟨h + 1, 3, none⟩) (.inr (by show _ ≤ h + 1; omega)) (.slice A3 (k0 + 1) cp6)
    have hA3 : ∀ i, ab A3 i → g + 1 ≤ i ∧ i ≠ h + 1 := fun i hi => ⟨(h3.out.blk i hi).1, fun e => by
      rcases h3'.out i hi with h' | h'
      · obtain ⟨b, hb, e'⟩ := h'
        cases hb
        simp only at e'
        omega
      · omega⟩
    have HO7 := Own.keep h3.out ((Only.refl (fun i => i = h + 1) w6).setCell (p := ⟨h + 1, 3, none⟩) (.inl rfl) (.slice A3 (k0 + 1) cp6)) (fun i hi => (hA3 i hi).2)
    obtain ⟨fs, hfs⟩ : ∃ fs, [(sHost0, sh1), (nb.data.toList, vb.data.toList)] ++ [((⟨#[84, 114, 97, 110, 115, 102, 101, 114, 45, 69, 110, 99, 111, 100, 105, 110, 103]⟩ : ByteArray).data.toList, (⟨#[99, 104, 117, 110, 107, 101, 100]⟩ : ByteArray).data.toList)] = fs := ⟨_, rfl⟩
    rw [hfs] at HO7
    have hasb2 : Hid (askB mb.data.toList (47 :: pb.data.toList) (nb.data.toList, vb.data.toList) body (z : Int) = writeF (reqLineF mb.data.toList tb.data.toList 1) fs (encF z body)) := hid (by rw [hasb.out, ← hfs]; rfl)
    have hfl : Hid (fs.length = k0 + 1) := hid (by rw [← hfs, hk0.out]; rfl)
    have hsm : Hid (SmallF fs) := hid (by
      rw [← hfs]
      refine ⟨by simp, fun p hp => ?_⟩
      simp only [List.cons_append, List.nil_append, List.mem_cons, List.not_mem_nil, or_false] at hp
      rcases hp with rfl | rfl | rfl
      · simp [sHost0, sh1]
      · simp only [Array.length_toList]
        show nb.size < _ ∧ vb.size < _
        omega
      · simp)
    clear hfs hasb o3 HR6 H06 HR H03 HO d0 d1 d2 d3 d4 f0 f1 f2 f3 f4 c0 c1 c2 c3 c4 c5 d0' d1' d2' d3' d4' f0' f1' f2' f3' f4' c0' c1' c2' c3' c4' c5' h3 h3' O6 HS2 O3
    have henc2 := fun W (hg : Gl W) (hb : Bs W A bn bc body) => encode_any z body A bn bc W hg hb (by omega) hz1 (by omega)
    generalize w6.setCell ⟨h + 1, 3, none⟩ (.slice A3 (k0 + 1) cp6) = w7 at *
    have hen := henc2 w7 (hG.same O7) (hB.out.same O7)
    obtain ⟨bo, hbo⟩ : ∃ bo, encF z body = bo := ⟨_, rfl⟩
    rw [hbo] at hen henc hasb2
    obtain ⟨bl, hbl2⟩ : ∃ bl, bo.length = bl := ⟨_, rfl⟩
    rw [hbl2] at hen henc
    replace hbl2 := hid hbl2
    clear hbo henc2
    refine hen.mono ?_
    rintro e w8 ⟨AE, cE, rfl, HE, O8⟩
    clear hen
    have hR8 := O8.keep hHR7 (fun h => h)
    have O9 := O7.trans O8
    have HO8 := hid (Own.same HO7 O8)
    have hEb := HE.blk
    have hw7 := O7.size
    have hh7 : h + 1 < w7.heap.size := b_lt hHR7
    have hAE : Hid (∀ i, ab AE i → i ≠ h + 1) := hid (fun i hi e => by have := (hEb i hi).1; omega)
    have HE8 := hid HE
    clear HE hHR7 HO7 O7 O8 hEb
    obtain ⟨⟨d0, d1, d2, d3, d4⟩, f0, f1, f2, f3, f4⟩ := cells5 hR8
    have H9 := hid (b_set hR8 4 (.slice AE bl cE))
    have O10 := hid (O9.setCell (p := ⟨h + 1, 4, none⟩) (.inr (by show _ ≤ h + 1; omega)) (.slice AE bl cE))
    have oS : Only (fun i => i = h + 1) w8 (w8.setCell ⟨h + 1, 4, none⟩ (.slice AE bl cE)) := (Only.refl (fun i => i = h + 1) w8).setCell (p := ⟨h + 1, 4, none⟩) (.inl rfl) _
    have HO9 := hid (Own.keep HO8.out oS (fun i hi => (hA3 i hi).2))
    have HE9 := hid (Own.keep HE8.out oS hAE.out)
    have hnilE : AE = none → bl = 0 ∧ cE = 0 := fun e => by have := HE8.out.bs.nil e; rw [hbl2.out] at this; exact this
    have hW := fun W (hg : Gl W) (h1 : Row W A3 (fV fs)) (h2 : Row W AE (bV bo)) => writeReq_any mb tb 1 fs bo A3 AE cp6 cE (by omega) (by rw [hts.out]; omega) (by omega) W hg h1 hsm.out (by rw [hfl.out]; omega) h2 (by rw [hbl2.out]; exact hnilE) (by rw [hbl2.out]; omega)
    rw [hfl.out, hbl2.out] at hW
    replace hW := hid hW
    replace hnilE := hid hnilE
    replace hA3 := hid hA3
    go_wp2_with fail
    have hws9 := O10.out.size
    refine (hW.out _ (hG.same O10.out) HO9.out.row HE9.out.row).mono ?_
    rintro e w10 ⟨AR, cR, rfl, HR, O11⟩
    clear hW
    replace HR := hid (Own.weak HR hws9)
    go_wp2_with fail
    go_ret2
    exact ⟨.inr ⟨AR, cR, by rw [hasb2.out]; rfl, hAsk.out, by rw [hasb2.out]; exact HR.out⟩, O10.out.trans O11⟩
  · have hasb : Hid (askB mb.data.toList (47 :: pb.data.toList) (nb.data.toList, vb.data.toList) body size = writeF (reqLineF mb.data.toList tb.data.toList 1) ([(sHost0, sh1), (nb.data.toList, vb.data.toList)] ++ [(sCL, Lib.decDigits bn)]) body) := hid (by
      unfold askB askFs askBody
      rw [if_neg hsz, if_neg hsz, htd.out, hbl.out]
      rfl)
    have hTx := fun W (hg : Gl W) => text_any bn (by omega) W hg
    have hds : (Lib.decDigits bn).length ≤ 4 := (dec_ok bn (by omega)).2.2.2
    obtain ⟨dd, hdd⟩ : ∃ dd, B (Lib.decDigits bn) = dd := ⟨_, rfl⟩
    have hdd2 : Hid (Lib.decDigits bn = dd.data.toList) := hid (by rw [← hdd])
    simp only [hdd] at hTx
    have hdz : dd.size ≤ 4 := by rw [← hdd]; exact hds
    clear hdd hds
    replace hTx := hid hTx
    go_upto_region 13 with (fail)
    have hbg : h + 1 < w5.heap.size := hh5
    have hne1 : h + 1 ≠ g := by omega
    have hne2 : g ≠ h + 1 := by omega
    clear c0 c1 c2 c3 c5 d0 d1 d2 d4
    have he9 : ∀ args w, (callFunc 9 args).run Tryz.prog w = .ok (.enter 9 args) w := fun args w => by kernel_rfl
    go_region_law
      (first
        | (refine step_call (by rfl) 9 _ _ (by rfl) he9 _ _ (by rfl) _ (hTx.out _ (hG5.out.same (by exact ⟨rfl, rfl, rfl, Nat.le_refl _, fun _ _ _ => rfl⟩))) ?_; intro w6 o6'; have o6 : Only (fun _ => False) w5 w6 := ⟨o6'.os, o6'.tape, o6'.output, o6'.size, o6'.block⟩; have HR6 := o6.keep HR (fun h => h); have j3 := b_cell HR6 3; have jf3 := b_free HR6 3; have m3 := b_cell (b_alloc HR6 (.cells #[.string ⟨#[67, 111, 110, 116, 101, 110, 116, 45, 76, 101, 110, 103, 116, 104]⟩, .string dd] 36)) 3; simp only [List.getElem?_toArray, List.getElem?_cons_zero, List.getElem?_cons_succ] at j3 m3)
        | (refine step_f (by rfl) _ _ (by rfl) (g + 1) k0 k0 (some ⟨h, 0, none⟩) [(sHost0, sh1), (nb.data.toList, vb.data.toList)] ⟨#[67, 111, 110, 116, 101, 110, 116, 45, 76, 101, 110, 103, 116, 104]⟩ dd hk0.out.symm (by rfl) w6.heap.size (by rfl) (by exact b_new w6 _) (by exact Own.same HO.out (o6.trans ((Only.refl _ w6).alloc _))) (by have := o6.size; simp; omega) (by omega) ?_; intro A3 cp6 w7 h3 h3' o3; have HR7 := o3.keep (b_alloc HR6 _) (by rintro ⟨b, hb, e⟩; cases hb; simp at e); have k3 := b_cell HR7 3; have kf3 := b_free HR7 3; simp only [List.getElem?_toArray, List.getElem?_cons_zero, List.getElem?_cons_succ] at k3))
    all_goals
      have O6 := (O3.trans o6).alloc (.cells #[.string ⟨#[67, 111, 110, 116, 101, 110, 116, 45, 76, 101, 110, 103, 116, 104]⟩, .string dd] 36)
      have O7 := O6.trans' o3 (fun i hi => .inr (by obtain ⟨b, hb, e⟩ := hi; cases hb; simp only at e; omega))
      have O8 := O7.setCell (p := ⟨h + 1, 3, none⟩) (.inr (by show _ ≤ h + 1; omega)) (.slice A3 (k0 + 1) cp6)
      have hHR8 := b_set HR7 3 (.slice A3 (k0 + 1) cp6)
      have hs6 := o6.size
      have hA3 : ∀ i, ab A3 i → i ≠ h + 1 := fun i hi e => by
        rcases h3'.out i hi with h' | h'
        · obtain ⟨b, hb, e'⟩ := h'
          cases hb
          simp only at e'
          omega
        · simp at h'
          omega
      have HO8 := Own.keep h3.out ((Only.refl (fun i => i = h + 1) w7).setCell (p := ⟨h + 1, 3, none⟩) (.inl rfl) (.slice A3 (k0 + 1) cp6)) hA3
      obtain ⟨fs, hfs⟩ : ∃ fs, [(sHost0, sh1), (nb.data.toList, vb.data.toList)] ++ [((⟨#[67, 111, 110, 116, 101, 110, 116, 45, 76, 101, 110, 103, 116, 104]⟩ : ByteArray).data.toList, dd.data.toList)] = fs := ⟨_, rfl⟩
      rw [hfs] at HO8
      have hasb2 : Hid (askB mb.data.toList (47 :: pb.data.toList) (nb.data.toList, vb.data.toList) body size = writeF (reqLineF mb.data.toList tb.data.toList 1) fs body) := hid (by rw [hasb.out, ← hfs, hdd2.out]; rfl)
      have hfl : Hid (fs.length = k0 + 1) := hid (by rw [← hfs, hk0.out]; rfl)
      have hsm : Hid (SmallF fs) := hid (by
        rw [← hfs]
        refine ⟨by simp, fun p hp => ?_⟩
        simp only [List.cons_append, List.nil_append, List.mem_cons, List.not_mem_nil, or_false] at hp
        rcases hp with rfl | rfl | rfl
        · simp [sHost0, sh1]
        · simp only [Array.length_toList]
          show nb.size < _ ∧ vb.size < _
          omega
        · simp only [Array.length_toList]
          exact ⟨by decide, by show dd.size < _; omega⟩)
      clear hfs hasb o3 HR7 HR6 k3 kf3 j3 jf3 m3 HR H03 HO d3 f0 f1 f2 f3 f4 c4 h3 h3' O6 O7 HS2 O3 o6' o6 hs6 hG5
      generalize w7.setCell ⟨h + 1, 3, none⟩ (.slice A3 (k0 + 1) cp6) = w8 at *
      have hnilB : A = none → bn = 0 ∧ bc = 0 := hB.out.nil
      have hW := fun W (hg : Gl W) (h1 : Row W A3 (fV fs)) (h2 : Row W A (bV body)) => writeReq_any mb tb 1 fs body A3 A cp6 bc (by omega) (by rw [hts.out]; omega) (by omega) W hg h1 hsm.out (by rw [hfl.out]; omega) h2 (by rw [hbl.out]; exact hnilB) (by rw [hbl.out]; omega)
      rw [hfl.out, hbl.out] at hW
      replace hW := hid hW
      replace hnilB := hid hnilB
      replace hA3 := hid hA3
      replace HO8 := hid HO8
      have hws8 := O8.size
      obtain ⟨⟨d0, d1, d2, d3, d4⟩, f0, f1, f2, f3, f4⟩ := cells5 hHR8
      go_wp2_with fail
      refine (hW.out _ (hG.same O8) HO8.out.row ((hB.out.same O8).row)).mono ?_
      rintro e w10 ⟨AR, cR, rfl, HR, O11⟩
      clear hW
      replace HR := hid (Own.weak HR hws8)
      go_wp2_with fail
      go_ret2
      exact ⟨.inr ⟨AR, cR, by rw [hasb2.out]; rfl, hAsk.out, by rw [hasb2.out]; exact HR.out⟩, O8.trans O11⟩
end Go.Proofs.YtnijoifiliaebaaGreatDoor
