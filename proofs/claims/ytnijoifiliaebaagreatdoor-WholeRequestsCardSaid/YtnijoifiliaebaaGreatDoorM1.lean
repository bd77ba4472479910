/-
  RequestLine, WriteRequest, Encode.
-/
import Derived.Test.YtnijoifiliaebaaGreatDoorL
namespace Go.Proofs.YtnijoifiliaebaaGreatDoor
open Go.RowKit

def reqLineF (m t : List UInt8) (minor : Nat) : List UInt8 := m ++ [32] ++ t ++ [32, 72, 84, 84, 80, 47, 49, 46] ++ Lib.decDigits minor ++ [13, 10]

set_option maxRecDepth 100000 in
set_option maxHeartbeats 1000000 in
theorem reqLine_any (m t : ByteArray) (minor : Nat) (F Bo : Value) (hm : m.size ≤ 4294967281) (ht : t.size ≤ 4294967281) (hmin : minor ≤ 9) (w : World) (hG : Gl w) :
    Calls Tryz.prog 35 #[.agg #[.string m, .string t, .int .i64 (minor : Int), F, Bo]] w fun e w' => e = .returned (.string (B (reqLineF m.data.toList t.data.toList minor))) ∧ Only (fun _ => False) w w' := by
  obtain ⟨wb, hwb⟩ : ∃ wb, w.alloc (.cells #[.string m, .string t, .int .i64 (minor : Int), F, Bo] 32) = wb := ⟨_, rfl⟩
  have O0 : Only (fun _ => False) w wb := by rw [← hwb]; exact (Only.refl _ w).alloc _
  have hb : wb.heap[w.heap.size]? = some (.cells #[.string m, .string t, .int .i64 (minor : Int), F, Bo] 32) := by rw [← hwb]; exact b_new _ _
  have hwl := b_lt hb
  have c0 := b_cell hb 0
  have c1 := b_cell hb 1
  have c2 := b_cell hb 2
  simp only [List.getElem?_toArray, List.getElem?_cons_zero, List.getElem?_cons_succ] at c0 c1 c2
  obtain ⟨g, hg⟩ : ∃ g, w.heap.size = g := ⟨_, rfl⟩
  rw [hg] at hb c0 c1 c2 hwl
  have hGb := hG.same O0
  have hdl : (Lib.decDigits minor).length ≤ 1 := by
    have : ∀ k : Fin 10, (Lib.decDigits k.val).length ≤ 1 := by decide +kernel
    exact this ⟨minor, by omega⟩
  have hds : (B (Lib.decDigits minor)).size ≤ 1 := hdl
  have hs1 : ((m ++ ⟨#[32]⟩ : ByteArray)).size = m.size + 1 := by rw [ByteArray.size_append]; rfl
  have hs2 : ((m ++ ⟨#[32]⟩ ++ t : ByteArray)).size = m.size + 1 + t.size := by rw [ByteArray.size_append, hs1]
  have hs3 : ((m ++ ⟨#[32]⟩ ++ t ++ ⟨#[32, 72, 84, 84, 80, 47, 49, 46]⟩ : ByteArray)).size = m.size + 1 + t.size + 8 := by rw [ByteArray.size_append, hs2]; rfl
  have hs4 : ((m ++ ⟨#[32]⟩ ++ t ++ ⟨#[32, 72, 84, 84, 80, 47, 49, 46]⟩ ++ B (Lib.decDigits minor) : ByteArray)).size = m.size + 1 + t.size + 8 + (B (Lib.decDigits minor)).size := by rw [ByteArray.size_append, hs3]
  have hr : B (reqLineF m.data.toList t.data.toList minor) = m ++ ⟨#[32]⟩ ++ t ++ ⟨#[32, 72, 84, 84, 80, 47, 49, 46]⟩ ++ B (Lib.decDigits minor) ++ ⟨#[13, 10]⟩ := by
    unfold reqLineF
    rw [B_app, B_app, B_app, B_app, B_app]
  replace hr := hid hr
  clear hdl
  have hTx := fun w (h : Gl w) => text_any minor (by omega) w h
  obtain ⟨dd, hdd⟩ : ∃ dd, B (Lib.decDigits minor) = dd := ⟨_, rfl⟩
  rw [hdd] at hds hs4 hr
  simp only [hdd] at hTx
  clear hdd
  have p1 : ∀ w, (Op.stringOp .add m ⟨#[32]⟩).run Tryz.prog w = .ok (.string (m ++ ⟨#[32]⟩)) w := fun w => run_string_add_sum w _ _ (by show m.size + 1 ≤ _; omega)
  have p2 : ∀ w, (Op.stringOp .add (m ++ ⟨#[32]⟩) t).run Tryz.prog w = .ok (.string (m ++ ⟨#[32]⟩ ++ t)) w := fun w => run_string_add_sum w _ _ (by omega)
  have p3 : ∀ w, (Op.stringOp .add (m ++ ⟨#[32]⟩ ++ t) ⟨#[32, 72, 84, 84, 80, 47, 49, 46]⟩).run Tryz.prog w = .ok (.string (m ++ ⟨#[32]⟩ ++ t ++ ⟨#[32, 72, 84, 84, 80, 47, 49, 46]⟩)) w := fun w => run_string_add_sum w _ _ (by rw [hs2]; show _ + 8 ≤ _; omega)
  have p4 : ∀ w, (Op.stringOp .add (m ++ ⟨#[32]⟩ ++ t ++ ⟨#[32, 72, 84, 84, 80, 47, 49, 46]⟩) dd).run Tryz.prog w = .ok (.string (m ++ ⟨#[32]⟩ ++ t ++ ⟨#[32, 72, 84, 84, 80, 47, 49, 46]⟩ ++ dd)) w := fun w => run_string_add_sum w _ _ (by omega)
  have p5 : ∀ w, (Op.stringOp .add (m ++ ⟨#[32]⟩ ++ t ++ ⟨#[32, 72, 84, 84, 80, 47, 49, 46]⟩ ++ dd) ⟨#[13, 10]⟩).run Tryz.prog w = .ok (.string (m ++ ⟨#[32]⟩ ++ t ++ ⟨#[32, 72, 84, 84, 80, 47, 49, 46]⟩ ++ dd ++ ⟨#[13, 10]⟩)) w := fun w => run_string_add_sum w _ _ (by rw [hs4]; show _ + 2 ≤ _; omega)
  clear hs1 hs2 hs3 hs4
  go_enter Tryz.func35, Tryz.ntmps35
  go_upto_region 1 with (fail)
  clear hwb hg
  go_region_held3 (fun w' => w'.cell? ⟨g, 0, none⟩ = some (.string m) ∧ w'.cell? ⟨g, 1, none⟩ = some (.string t) ∧ w'.cell? ⟨g, 2, none⟩ = some (.int .i64 (minor : Int))) (go_keep)
    (first
      | (go_at_call 9; refine (hTx _ (hGb.same (by exact ⟨rfl, rfl, rfl, Nat.le_refl _, fun _ _ _ => rfl⟩))).mono ?_; rintro e w1 ⟨rfl, o1⟩; have o2 : Only (fun _ => False) wb w1 := ⟨o1.os, o1.tape, o1.output, o1.size, o1.block⟩; have e0 := (o2.cell (p := ⟨g, 0, none⟩) hwl (fun h => h)).trans c0; have e1 := (o2.cell (p := ⟨g, 1, none⟩) hwl (fun h => h)).trans c1; have e2 := (o2.cell (p := ⟨g, 2, none⟩) hwl (fun h => h)).trans c2))
  go_wp2_with fail
  go_ret
  exact ⟨by rw [hr.out]; rfl, O0.trans o2⟩

theorem B_size (l : List UInt8) : (B l).size = l.length := rfl
theorem reqLine_len (m t : List UInt8) (minor : Nat) (h : minor ≤ 9) : (reqLineF m t minor).length ≤ m.length + t.length + 12 := by
  have : ∀ k : Fin 10, (Lib.decDigits k.val).length ≤ 1 := by decide +kernel
  have h2 : (Lib.decDigits minor).length ≤ 1 := this ⟨minor, by omega⟩
  simp [reqLineF]
  omega

set_option maxRecDepth 100000 in
set_option maxHeartbeats 1000000 in
theorem writeReq_any (m t : ByteArray) (minor : Nat) (fs : List FD) (body : List UInt8) (A C : Option Addr) (c d : Nat) (hm : m.size ≤ 1000000) (ht : t.size ≤ 1000000) (hmin : minor ≤ 9) (w : World) (hG : Gl w) (hR : Row w A (fV fs)) (hS : SmallF fs) (h48 : fs.length ≤ 1000)
    (hB : Row w C (bV body)) (hC : C = none → body.length = 0 ∧ d = 0) (hbl : body.length ≤ 4294967281) :
    Calls Tryz.prog 15 #[.agg #[.string m, .string t, .int .i64 (minor : Int), .slice A fs.length c, .slice C body.length d]] w fun e w' => ∃ A' c', e = .returned (.slice A' (writeF (reqLineF m.data.toList t.data.toList minor) fs body).length c') ∧ OwnB w' w.heap.size A' c' (writeF (reqLineF m.data.toList t.data.toList minor) fs body) ∧ Only (fun _ => False) w w' := by
  obtain ⟨n, hnn⟩ : ∃ n, fs.length = n := ⟨_, rfl⟩
  obtain ⟨bl, hbb⟩ : ∃ bl, body.length = bl := ⟨_, rfl⟩
  have hW := fun (first : ByteArray) (w1 : World) (h1 : first.size ≤ 4294967281) (h2 : Row w1 A (fV fs)) (h3 : Row w1 C (bV body)) => write_any first fs body A C c d w1 h1 h2 hS h48 h3 hC hbl
  rw [hnn, hbb] at hW
  rw [hnn, hbb]
  obtain ⟨wb, hwb⟩ : ∃ wb, w.alloc (.cells #[.string m, .string t, .int .i64 (minor : Int), .slice A n c, .slice C bl d] 32) = wb := ⟨_, rfl⟩
  have O0 : Only (fun _ => False) w wb := by rw [← hwb]; exact (Only.refl _ w).alloc _
  have hb : wb.heap[w.heap.size]? = some (.cells #[.string m, .string t, .int .i64 (minor : Int), .slice A n c, .slice C bl d] 32) := by rw [← hwb]; exact b_new _ _
  have hwl := b_lt hb
  have c0 := b_cell hb 0
  have c1 := b_cell hb 1
  have c2 := b_cell hb 2
  have c3 := b_cell hb 3
  have c4 := b_cell hb 4
  simp only [List.getElem?_toArray, List.getElem?_cons_zero, List.getElem?_cons_succ] at c0 c1 c2 c3 c4
  obtain ⟨g, hg⟩ : ∃ g, w.heap.size = g := ⟨_, rfl⟩
  have hws := O0.size
  rw [hg] at hb c0 c1 c2 c3 c4 hwl
  have hGb := hG.same O0
  have hRb := hid (hR.same O0)
  have hBb := hid (hB.same O0)
  have hLine := fun w1 (h1 : Gl w1) => reqLine_any m t minor (.slice A n c) (.slice C bl d) (by omega) (by omega) hmin w1 h1
  have hlen := reqLine_len m.data.toList t.data.toList minor hmin
  rw [show m.data.toList.length = m.size by simp, show t.data.toList.length = t.size by simp] at hlen
  have hfs : (B (reqLineF m.data.toList t.data.toList minor)).size ≤ 4294967281 := by rw [B_size]; omega
  have hres : B (reqLineF m.data.toList t.data.toList minor) = B (reqLineF m.data.toList t.data.toList minor) := rfl
  obtain ⟨q, hq⟩ : ∃ q, reqLineF m.data.toList t.data.toList minor = q := ⟨_, rfl⟩
  rw [hq] at hfs ⊢
  simp only [hq] at hLine
  clear hq hres hlen
  go_enter Tryz.func15, Tryz.ntmps15
  go_upto_region 1 with (fail)
  clear hwb hnn hbb hR hB hS hg
  go_region_held3 (fun w' => w'.cell? ⟨g, 0, none⟩ = some (.string m) ∧ w'.cell? ⟨g, 1, none⟩ = some (.string t) ∧ w'.cell? ⟨g, 2, none⟩ = some (.int .i64 (minor : Int)) ∧ w'.cell? ⟨g, 3, none⟩ = some (.slice A n c) ∧ w'.cell? ⟨g, 4, none⟩ = some (.slice C bl d)) (go_keep)
    (first
      | (go_at_call 35; refine (hLine _ (hGb.same (by exact ⟨rfl, rfl, rfl, Nat.le_refl _, fun _ _ _ => rfl⟩))).mono ?_; rintro e w1 ⟨rfl, o1⟩; have o2 : Only (fun _ => False) wb w1 := ⟨o1.os, o1.tape, o1.output, o1.size, o1.block⟩; have e0 := (o2.cell (p := ⟨g, 0, none⟩) hwl (fun h => h)).trans c0; have e1 := (o2.cell (p := ⟨g, 1, none⟩) hwl (fun h => h)).trans c1; have e2 := (o2.cell (p := ⟨g, 2, none⟩) hwl (fun h => h)).trans c2; have e3 := (o2.cell (p := ⟨g, 3, none⟩) hwl (fun h => h)).trans c3; have e4 := (o2.cell (p := ⟨g, 4, none⟩) hwl (fun h => h)).trans c4)
      | (go_at_call 34; refine (hW (B q) _ hfs (hRb.out.same (by exact ⟨o2.os, o2.tape, o2.output, o2.size, o2.block⟩)) (hBb.out.same (by exact ⟨o2.os, o2.tape, o2.output, o2.size, o2.block⟩))).mono ?_; rintro e w2 ⟨A', c', rfl, HO2, o3'⟩; have o3 : Only (fun _ => False) wb w2 := o2.trans ⟨o3'.os, o3'.tape, o3'.output, o3'.size, o3'.block⟩; have hws2 := Nat.le_trans hws o2.size; have f0 := (o3.cell (p := ⟨g, 0, none⟩) hwl (fun h => h)).trans c0; have f1 := (o3.cell (p := ⟨g, 1, none⟩) hwl (fun h => h)).trans c1; have f2 := (o3.cell (p := ⟨g, 2, none⟩) hwl (fun h => h)).trans c2; have f3 := (o3.cell (p := ⟨g, 3, none⟩) hwl (fun h => h)).trans c3; have f4 := (o3.cell (p := ⟨g, 4, none⟩) hwl (fun h => h)).trans c4))
  go_wp2_with fail
  go_ret
  exact ⟨A', c', rfl, Own.weak HO2 hws2, O0.trans o3⟩
end Go.Proofs.YtnijoifiliaebaaGreatDoor
