/- The walk of the law's do at the kinds whose answers call a.name: Append, Rename, Cut. (Written by gen_law2.py.) -/
import Derived.Test.YtglkonhhknaomaaDoorEchLaw1
namespace Go.Proofs.YtglkonhhknaomaaDoor
open Go.RowKit Go.Maps

theorem ActAt.name_len {w : World} {a : ActM} {x : ActV} (h : ActAt w a x) (i : Nat) : (a.name i).length ≤ maxLen := by
  obtain ⟨p, cap, hnv, hl, hx, hc⟩ := h.names
  unfold ActM.name
  rw [List.getD_eq_getElem?_getD]
  cases e : a.names[i]? with
  | none => simp
  | some s => exact hx s (List.mem_of_getElem? e)

section
variable {B : Nat} {w w' : World} {SD SR : Nat → Prop} {d mb r : Nat} {stD stR st' : DSt}

set_option maxRecDepth 100000 in
set_option maxHeartbeats 4000000 in
theorem do_cut {a : ActM} {x : ActV} (h : Both B w SD SR d mb stD r stR) (hB : B ≤ w.heap.size) (ha : ∀ w', Below B w w' → ActAt w' a x) (hk : a.kind = 4) :
    Calls Tryd.prog 9 #[actV a x, .pointer (some ⟨d, 0, none⟩), .pointer (some ⟨r, 0, none⟩)] w (DoPost B SD SR w d mb r a stD stR) := by
  have ha0 := ha w ((Mod.refl Nil w).below hB (fun _ e => e.elim))
  obtain ⟨p1, c1, h1, -⟩ := ha0.names
  obtain ⟨p2, c2, h2, -⟩ := ha0.bs
  obtain ⟨p3, c3, h3, -⟩ := ha0.keep
  have N0 := Lib.hid ha0.n0
  have N1 := Lib.hid ha0.n1
  have hnl : Hid (∀ i, (a.name i).length ≤ maxLen) := fun i => ha0.name_len i
  have hv : actV a x = .agg #[.int .i64 4, .slice p1 a.names.length c1, .slice p2 a.bs.length c2, .int .i64 a.n, .slice p3 a.keep.length c3] := by unfold actV; rw [hk, h1, h2, h3]
  have ea : Hid (∀ st : DSt, a.run st = (((st.cut (a.name 0) a.n).1 : Int), (st.cut (a.name 0) a.n).2)) := fun st => by unfold ActM.run; rw [hk]; simp
  have hNM0 : Hid (∀ w', Below B w w' → Calls Tryd.prog 17 #[.agg #[.int .i64 4, .slice p1 a.names.length c1, .slice p2 a.bs.length c2, .int .i64 a.n, .slice p3 a.keep.length c3], .int .i64 0] w' fun e w'' => e = .returned (.string ⟨(a.name 0).toArray⟩) ∧ Below w'.heap.size w' w'') := fun w' hb => by
    have := actName_any (ha w' hb) 0 (by omega)
    rw [hv] at this
    exact this
  obtain ⟨wz, hwz⟩ : ∃ wz, (w.alloc (.cells #[.int .i64 4, .slice p1 a.names.length c1, .slice p2 a.bs.length c2, .int .i64 a.n, .slice p3 a.keep.length c3] 37)).drew = wz := ⟨_, rfl⟩
  have hmz : Mod Nil w wz := by rw [← hwz]; exact ((Mod.refl Nil w).alloc _).drew
  have hz : Both B wz SD SR d mb stD r stR := h.keptN hmz
  have hBz : B ≤ wz.heap.size := Nat.le_trans hB hmz.size
  have hbz : Below B w wz := hmz.below hB (fun _ e => e.elim)
  have hblk : Hid (wz.heap[w.heap.size]? = some (.cells #[.int .i64 4, .slice p1 a.names.length c1, .slice p2 a.bs.length c2, .int .i64 a.n, .slice p3 a.keep.length c3] 37 (0, 0))) := by rw [← hwz]; exact blk_new w _
  have hSD : ∀ k, SD k → k < w.heap.size := fun k e => by obtain ⟨fs, hd⟩ := h.disk; exact hd.inS k e
  have hSR : ∀ k, SR k → k < w.heap.size := fun k e => by obtain ⟨_, _, _, hr⟩ := h.ref; exact hr.inS k e
  have hwlt := blk_lt hblk.out
  have hcells : ∀ w' : World, w'.heap[w.heap.size]? = some (.cells #[.int .i64 4, .slice p1 a.names.length c1, .slice p2 a.bs.length c2, .int .i64 a.n, .slice p3 a.keep.length c3] 37 (0, 0)) → (w'.cell? ⟨w.heap.size, 0, none⟩ = some (.int .i64 4) ∧ w'.cell? ⟨w.heap.size, 1, none⟩ = some (.slice p1 a.names.length c1) ∧ w'.cell? ⟨w.heap.size, 2, none⟩ = some (.slice p2 a.bs.length c2) ∧ w'.cell? ⟨w.heap.size, 3, none⟩ = some (.int .i64 a.n) ∧ w'.cell? ⟨w.heap.size, 4, none⟩ = some (.slice p3 a.keep.length c3)) := fun w' hb => by
    refine ⟨?_, ?_, ?_, ?_, ?_⟩ <;> rw [blk_cell hb] <;> rfl
  have HCE := Lib.hid hcells
  have HZ0 := Lib.hid hz
  have HBZ0 := Lib.hid hbz
  have HMZ := Lib.hid hmz
  have HB0 := Lib.hid hBz
  have HW0 := Lib.hid hwlt
  have HK0 := hblk
  have HA := Lib.hid ha
  have HSD := Lib.hid hSD
  have HSR := Lib.hid hSR
  have HHB := Lib.hid hB
  have HH2 := Lib.hid h2
  rw [hv]
  have T0 : True := trivial
  clear h ha ha0 hz hbz hv h1 h2 h3 hcells hmz hBz hSD hSR hwlt hblk hB
  subst hwz
  go_enter Tryd.func9, Tryd.ntmps9
  go_wp2_with fail
  go_region_held3 (fun w' => w'.cell? ⟨w.heap.size, 0, none⟩ = some (.int .i64 4) ∧ w'.cell? ⟨w.heap.size, 1, none⟩ = some (.slice p1 a.names.length c1) ∧ w'.cell? ⟨w.heap.size, 2, none⟩ = some (.slice p2 a.bs.length c2) ∧ w'.cell? ⟨w.heap.size, 3, none⟩ = some (.int .i64 a.n) ∧ w'.cell? ⟨w.heap.size, 4, none⟩ = some (.slice p3 a.keep.length c3)) (first | go_keep | exact HCE.out _ HK0.out | exact HCE.out _ HK1.out | exact HCE.out _ HK2.out | exact HCE.out _ HK3.out | exact HCE.out _ HK4.out)
    (first
      | (go_at_call 17
         have _t := T0
         refine (hNM0.out _ HBZ0.out).mono ?_
         rintro e w1 ⟨rfl, hb1⟩
         have HK1 := Lib.hid ((hb1.block _ HW0.out).trans HK0.out)
         have HW1 := Lib.hid (Nat.lt_of_lt_of_le HW0.out hb1.size)
         have HM1 := Lib.hid (Mod.ofBelow hb1 Nil)
         have HZ1 := Lib.hid (HZ0.out.keptN HM1.out)
         have HBZ1 := Lib.hid (HBZ0.out.trans (hb1.mono HB0.out))
         have HB1 := Lib.hid (Nat.le_trans HB0.out hb1.size)
         have T1 : True := trivial
         clear T0 _t hb1)
      | (go_at_call 24
         have _t := T1
         obtain ⟨fs1, hd1⟩ := HZ1.out.disk
         have HC1 := Lib.hid (cut_any hd1 ⟨(a.name 0).toArray⟩ (by have := hnl.out 0; simpa [ByteArray.size] using this) a.n)
         clear hd1
         refine HC1.out.mono ?_
         rintro e w2 ⟨rfl, hm2, hq2⟩
         have HZ2 := Lib.hid (HZ1.out.afterD HB1.out hm2 hq2)
         have HM2 := Lib.hid hm2
         have HK2 := Lib.hid ((hm2.block _ HW1.out (fun e => Nat.lt_irrefl _ (HSD.out _ e))).trans HK1.out)
         have HW2 := Lib.hid (Nat.lt_of_lt_of_le HW1.out hm2.size)
         have HBZ2 := Lib.hid (HBZ1.out.trans HZ2.out.2)
         have HB2 := Lib.hid (Nat.le_trans HB1.out hm2.size)
         replace HZ2 := Lib.hid HZ2.out.1
         have T2 : True := trivial
         clear T1 _t hm2 hq2 HC1)
      | (go_at_call 17
         have _t := T2
         refine (hNM0.out _ HBZ2.out).mono ?_
         rintro e w3 ⟨rfl, hb3⟩
         have HK3 := Lib.hid ((hb3.block _ HW2.out).trans HK2.out)
         have HW3 := Lib.hid (Nat.lt_of_lt_of_le HW2.out hb3.size)
         have HM3 := Lib.hid (Mod.ofBelow hb3 Nil)
         have HZ3 := Lib.hid (HZ2.out.keptN HM3.out)
         have HBZ3 := Lib.hid (HBZ2.out.trans (hb3.mono HB2.out))
         have HB3 := Lib.hid (Nat.le_trans HB2.out hb3.size)
         have T3 : True := trivial
         clear T2 _t hb3)
      | (go_at_call 25
         have _t := T3
         obtain ⟨lv3, cc3, fs3, hd3⟩ := HZ3.out.ref
         have HC3 := Lib.hid (refCut_any hd3 (a.name 0) a.n N0.out N1.out)
         clear hd3
         refine HC3.out.mono ?_
         rintro e w4 ⟨rfl, hm4, hq4⟩
         have HZ4 := Lib.hid (HZ3.out.afterR HB3.out hm4 hq4)
         have HM4 := Lib.hid hm4
         have HK4 := Lib.hid ((hm4.block _ HW3.out (fun e => Nat.lt_irrefl _ (HSR.out _ e))).trans HK3.out)
         have HW4 := Lib.hid (Nat.lt_of_lt_of_le HW3.out hm4.size)
         have HBZ4 := Lib.hid (HBZ3.out.trans HZ4.out.2)
         have HB4 := Lib.hid (Nat.le_trans HB3.out hm4.size)
         replace HZ4 := Lib.hid HZ4.out.1
         have T4 : True := trivial
         clear T3 _t hm4 hq4 HC3))
  go_wp2_with fail
  go_ret
  have hq := HZ4.out
  have hans := ea.out stD
  have hans2 := ea.out stR
  unfold DoPost
  rw [hans, hans2]
  exact ⟨rfl, _, _, since_of (((HMZ.out).trans HM1.out (fun _ e => e.elim))) HM2.out (HM3.out) HM4.out, hq⟩
set_option maxRecDepth 100000 in
set_option maxHeartbeats 4000000 in
theorem do_rename {a : ActM} {x : ActV} (h : Both B w SD SR d mb stD r stR) (hB : B ≤ w.heap.size) (ha : ∀ w', Below B w w' → ActAt w' a x) (hk : a.kind = 2) :
    Calls Tryd.prog 9 #[actV a x, .pointer (some ⟨d, 0, none⟩), .pointer (some ⟨r, 0, none⟩)] w (DoPost B SD SR w d mb r a stD stR) := by
  have ha0 := ha w ((Mod.refl Nil w).below hB (fun _ e => e.elim))
  obtain ⟨p1, c1, h1, -⟩ := ha0.names
  obtain ⟨p2, c2, h2, -⟩ := ha0.bs
  obtain ⟨p3, c3, h3, -⟩ := ha0.keep
  have N0 := Lib.hid ha0.n0
  have N1 := Lib.hid ha0.n1
  have hnl : Hid (∀ i, (a.name i).length ≤ maxLen) := fun i => ha0.name_len i
  have hv : actV a x = .agg #[.int .i64 2, .slice p1 a.names.length c1, .slice p2 a.bs.length c2, .int .i64 a.n, .slice p3 a.keep.length c3] := by unfold actV; rw [hk, h1, h2, h3]
  have ea : Hid (∀ st : DSt, a.run st = (((st.rename (a.name 0) (a.name 1)).1 : Int), (st.rename (a.name 0) (a.name 1)).2)) := fun st => by unfold ActM.run; rw [hk]; simp
  have hNM0 : Hid (∀ w', Below B w w' → Calls Tryd.prog 17 #[.agg #[.int .i64 2, .slice p1 a.names.length c1, .slice p2 a.bs.length c2, .int .i64 a.n, .slice p3 a.keep.length c3], .int .i64 0] w' fun e w'' => e = .returned (.string ⟨(a.name 0).toArray⟩) ∧ Below w'.heap.size w' w'') := fun w' hb => by
    have := actName_any (ha w' hb) 0 (by omega)
    rw [hv] at this
    exact this
  have hNM1 : Hid (∀ w', Below B w w' → Calls Tryd.prog 17 #[.agg #[.int .i64 2, .slice p1 a.names.length c1, .slice p2 a.bs.length c2, .int .i64 a.n, .slice p3 a.keep.length c3], .int .i64 1] w' fun e w'' => e = .returned (.string ⟨(a.name 1).toArray⟩) ∧ Below w'.heap.size w' w'') := fun w' hb => by
    have := actName_any (ha w' hb) 1 (by omega)
    rw [hv] at this
    exact this
  obtain ⟨wz, hwz⟩ : ∃ wz, (w.alloc (.cells #[.int .i64 2, .slice p1 a.names.length c1, .slice p2 a.bs.length c2, .int .i64 a.n, .slice p3 a.keep.length c3] 37)).drew = wz := ⟨_, rfl⟩
  have hmz : Mod Nil w wz := by rw [← hwz]; exact ((Mod.refl Nil w).alloc _).drew
  have hz : Both B wz SD SR d mb stD r stR := h.keptN hmz
  have hBz : B ≤ wz.heap.size := Nat.le_trans hB hmz.size
  have hbz : Below B w wz := hmz.below hB (fun _ e => e.elim)
  have hblk : Hid (wz.heap[w.heap.size]? = some (.cells #[.int .i64 2, .slice p1 a.names.length c1, .slice p2 a.bs.length c2, .int .i64 a.n, .slice p3 a.keep.length c3] 37 (0, 0))) := by rw [← hwz]; exact blk_new w _
  have hSD : ∀ k, SD k → k < w.heap.size := fun k e => by obtain ⟨fs, hd⟩ := h.disk; exact hd.inS k e
  have hSR : ∀ k, SR k → k < w.heap.size := fun k e => by obtain ⟨_, _, _, hr⟩ := h.ref; exact hr.inS k e
  have hwlt := blk_lt hblk.out
  have hcells : ∀ w' : World, w'.heap[w.heap.size]? = some (.cells #[.int .i64 2, .slice p1 a.names.length c1, .slice p2 a.bs.length c2, .int .i64 a.n, .slice p3 a.keep.length c3] 37 (0, 0)) → (w'.cell? ⟨w.heap.size, 0, none⟩ = some (.int .i64 2) ∧ w'.cell? ⟨w.heap.size, 1, none⟩ = some (.slice p1 a.names.length c1) ∧ w'.cell? ⟨w.heap.size, 2, none⟩ = some (.slice p2 a.bs.length c2) ∧ w'.cell? ⟨w.heap.size, 3, none⟩ = some (.int .i64 a.n) ∧ w'.cell? ⟨w.heap.size, 4, none⟩ = some (.slice p3 a.keep.length c3)) := fun w' hb => by
    refine ⟨?_, ?_, ?_, ?_, ?_⟩ <;> rw [blk_cell hb] <;> rfl
  have HCE := Lib.hid hcells
  have HZ0 := Lib.hid hz
  have HBZ0 := Lib.hid hbz
  have HMZ := Lib.hid hmz
  have HB0 := Lib.hid hBz
  have HW0 := Lib.hid hwlt
  have HK0 := hblk
  have HA := Lib.hid ha
  have HSD := Lib.hid hSD
  have HSR := Lib.hid hSR
  have HHB := Lib.hid hB
  have HH2 := Lib.hid h2
  rw [hv]
  have T0 : True := trivial
  clear h ha ha0 hz hbz hv h1 h2 h3 hcells hmz hBz hSD hSR hwlt hblk hB
  subst hwz
  go_enter Tryd.func9, Tryd.ntmps9
  go_wp2_with fail
  go_region_held3 (fun w' => w'.cell? ⟨w.heap.size, 0, none⟩ = some (.int .i64 2) ∧ w'.cell? ⟨w.heap.size, 1, none⟩ = some (.slice p1 a.names.length c1) ∧ w'.cell? ⟨w.heap.size, 2, none⟩ = some (.slice p2 a.bs.length c2) ∧ w'.cell? ⟨w.heap.size, 3, none⟩ = some (.int .i64 a.n) ∧ w'.cell? ⟨w.heap.size, 4, none⟩ = some (.slice p3 a.keep.length c3)) (first | go_keep | exact HCE.out _ HK0.out | exact HCE.out _ HK1.out | exact HCE.out _ HK2.out | exact HCE.out _ HK3.out | exact HCE.out _ HK4.out | exact HCE.out _ HK5.out | exact HCE.out _ HK6.out)
    (first
      | (go_at_call 17
         have _t := T0
         refine (hNM0.out _ HBZ0.out).mono ?_
         rintro e w1 ⟨rfl, hb1⟩
         have HK1 := Lib.hid ((hb1.block _ HW0.out).trans HK0.out)
         have HW1 := Lib.hid (Nat.lt_of_lt_of_le HW0.out hb1.size)
         have HM1 := Lib.hid (Mod.ofBelow hb1 Nil)
         have HZ1 := Lib.hid (HZ0.out.keptN HM1.out)
         have HBZ1 := Lib.hid (HBZ0.out.trans (hb1.mono HB0.out))
         have HB1 := Lib.hid (Nat.le_trans HB0.out hb1.size)
         have T1 : True := trivial
         clear T0 _t hb1)
      | (go_at_call 17
         have _t := T1
         refine (hNM1.out _ HBZ1.out).mono ?_
         rintro e w2 ⟨rfl, hb2⟩
         have HK2 := Lib.hid ((hb2.block _ HW1.out).trans HK1.out)
         have HW2 := Lib.hid (Nat.lt_of_lt_of_le HW1.out hb2.size)
         have HM2 := Lib.hid (Mod.ofBelow hb2 Nil)
         have HZ2 := Lib.hid (HZ1.out.keptN HM2.out)
         have HBZ2 := Lib.hid (HBZ1.out.trans (hb2.mono HB1.out))
         have HB2 := Lib.hid (Nat.le_trans HB1.out hb2.size)
         have T2 : True := trivial
         clear T1 _t hb2)
      | (go_at_call 20
         have _t := T2
         obtain ⟨fs2, hd2⟩ := HZ2.out.disk
         have HC2 := Lib.hid (rename_any hd2 ⟨(a.name 0).toArray⟩ ⟨(a.name 1).toArray⟩ (by have := hnl.out 0; simpa [ByteArray.size] using this) (by have := hnl.out 1; simpa [ByteArray.size] using this))
         clear hd2
         refine HC2.out.mono ?_
         rintro e w3 ⟨rfl, hm3, hq3⟩
         have HZ3 := Lib.hid (HZ2.out.afterD HB2.out hm3 hq3)
         have HM3 := Lib.hid hm3
         have HK3 := Lib.hid ((hm3.block _ HW2.out (fun e => Nat.lt_irrefl _ (HSD.out _ e))).trans HK2.out)
         have HW3 := Lib.hid (Nat.lt_of_lt_of_le HW2.out hm3.size)
         have HBZ3 := Lib.hid (HBZ2.out.trans HZ3.out.2)
         have HB3 := Lib.hid (Nat.le_trans HB2.out hm3.size)
         replace HZ3 := Lib.hid HZ3.out.1
         have T3 : True := trivial
         clear T2 _t hm3 hq3 HC2)
      | (go_at_call 17
         have _t := T3
         refine (hNM0.out _ HBZ3.out).mono ?_
         rintro e w4 ⟨rfl, hb4⟩
         have HK4 := Lib.hid ((hb4.block _ HW3.out).trans HK3.out)
         have HW4 := Lib.hid (Nat.lt_of_lt_of_le HW3.out hb4.size)
         have HM4 := Lib.hid (Mod.ofBelow hb4 Nil)
         have HZ4 := Lib.hid (HZ3.out.keptN HM4.out)
         have HBZ4 := Lib.hid (HBZ3.out.trans (hb4.mono HB3.out))
         have HB4 := Lib.hid (Nat.le_trans HB3.out hb4.size)
         have T4 : True := trivial
         clear T3 _t hb4)
      | (go_at_call 17
         have _t := T4
         refine (hNM1.out _ HBZ4.out).mono ?_
         rintro e w5 ⟨rfl, hb5⟩
         have HK5 := Lib.hid ((hb5.block _ HW4.out).trans HK4.out)
         have HW5 := Lib.hid (Nat.lt_of_lt_of_le HW4.out hb5.size)
         have HM5 := Lib.hid (Mod.ofBelow hb5 Nil)
         have HZ5 := Lib.hid (HZ4.out.keptN HM5.out)
         have HBZ5 := Lib.hid (HBZ4.out.trans (hb5.mono HB4.out))
         have HB5 := Lib.hid (Nat.le_trans HB4.out hb5.size)
         have T5 : True := trivial
         clear T4 _t hb5)
      | (go_at_call 21
         have _t := T5
         obtain ⟨lv5, cc5, fs5, hd5⟩ := HZ5.out.ref
         have HC5 := Lib.hid (refRename_any hd5 (a.name 0) (a.name 1) (hnl.out 1))
         clear hd5
         refine HC5.out.mono ?_
         rintro e w6 ⟨rfl, hm6, hq6⟩
         have HZ6 := Lib.hid (HZ5.out.afterR HB5.out hm6 hq6)
         have HM6 := Lib.hid hm6
         have HK6 := Lib.hid ((hm6.block _ HW5.out (fun e => Nat.lt_irrefl _ (HSR.out _ e))).trans HK5.out)
         have HW6 := Lib.hid (Nat.lt_of_lt_of_le HW5.out hm6.size)
         have HBZ6 := Lib.hid (HBZ5.out.trans HZ6.out.2)
         have HB6 := Lib.hid (Nat.le_trans HB5.out hm6.size)
         replace HZ6 := Lib.hid HZ6.out.1
         have T6 : True := trivial
         clear T5 _t hm6 hq6 HC5))
  go_wp2_with fail
  go_ret
  have hq := HZ6.out
  have hans := ea.out stD
  have hans2 := ea.out stR
  unfold DoPost
  rw [hans, hans2]
  exact ⟨rfl, _, _, since_of (((((HMZ.out).trans HM1.out (fun _ e => e.elim))).trans HM2.out (fun _ e => e.elim))) HM3.out (((HM4.out).trans HM5.out (fun _ e => e.elim))) HM6.out, hq⟩
set_option maxRecDepth 100000 in
set_option maxHeartbeats 4000000 in
theorem do_append {a : ActM} {x : ActV} (h : Both B w SD SR d mb stD r stR) (hB : B ≤ w.heap.size) (ha : ∀ w', Below B w w' → ActAt w' a x) (hk : a.kind = 0) (hlo : LowAct B x) (hsD : total stD.files + a.bs.flatten.length ≤ 1099511627776) (hsR : total stR.files + a.bs.flatten.length ≤ 1099511627776) :
    Calls Tryd.prog 9 #[actV a x, .pointer (some ⟨d, 0, none⟩), .pointer (some ⟨r, 0, none⟩)] w (DoPost B SD SR w d mb r a stD stR) := by
  have ha0 := ha w ((Mod.refl Nil w).below hB (fun _ e => e.elim))
  obtain ⟨p1, c1, h1, -⟩ := ha0.names
  obtain ⟨p2, c2, h2, -⟩ := ha0.bs
  obtain ⟨p3, c3, h3, -⟩ := ha0.keep
  have N0 := Lib.hid ha0.n0
  have N1 := Lib.hid ha0.n1
  have hnl : Hid (∀ i, (a.name i).length ≤ maxLen) := fun i => ha0.name_len i
  have hv : actV a x = .agg #[.int .i64 0, .slice p1 a.names.length c1, .slice p2 a.bs.length c2, .int .i64 a.n, .slice p3 a.keep.length c3] := by unfold actV; rw [hk, h1, h2, h3]
  have ea : Hid (∀ st : DSt, a.run st = (((st.append (a.name 0) a.bs.flatten).1 : Int), (st.append (a.name 0) a.bs.flatten).2)) := fun st => by unfold ActM.run; rw [hk]; simp
  have hNM0 : Hid (∀ w', Below B w w' → Calls Tryd.prog 17 #[.agg #[.int .i64 0, .slice p1 a.names.length c1, .slice p2 a.bs.length c2, .int .i64 a.n, .slice p3 a.keep.length c3], .int .i64 0] w' fun e w'' => e = .returned (.string ⟨(a.name 0).toArray⟩) ∧ Below w'.heap.size w' w'') := fun w' hb => by
    have := actName_any (ha w' hb) 0 (by omega)
    rw [hv] at this
    exact this
  obtain ⟨wz, hwz⟩ : ∃ wz, (w.alloc (.cells #[.int .i64 0, .slice p1 a.names.length c1, .slice p2 a.bs.length c2, .int .i64 a.n, .slice p3 a.keep.length c3] 37)).drew = wz := ⟨_, rfl⟩
  have hmz : Mod Nil w wz := by rw [← hwz]; exact ((Mod.refl Nil w).alloc _).drew
  have hz : Both B wz SD SR d mb stD r stR := h.keptN hmz
  have hBz : B ≤ wz.heap.size := Nat.le_trans hB hmz.size
  have hbz : Below B w wz := hmz.below hB (fun _ e => e.elim)
  have hblk : Hid (wz.heap[w.heap.size]? = some (.cells #[.int .i64 0, .slice p1 a.names.length c1, .slice p2 a.bs.length c2, .int .i64 a.n, .slice p3 a.keep.length c3] 37 (0, 0))) := by rw [← hwz]; exact blk_new w _
  have hSD : ∀ k, SD k → k < w.heap.size := fun k e => by obtain ⟨fs, hd⟩ := h.disk; exact hd.inS k e
  have hSR : ∀ k, SR k → k < w.heap.size := fun k e => by obtain ⟨_, _, _, hr⟩ := h.ref; exact hr.inS k e
  have hwlt := blk_lt hblk.out
  have hcells : ∀ w' : World, w'.heap[w.heap.size]? = some (.cells #[.int .i64 0, .slice p1 a.names.length c1, .slice p2 a.bs.length c2, .int .i64 a.n, .slice p3 a.keep.length c3] 37 (0, 0)) → (w'.cell? ⟨w.heap.size, 0, none⟩ = some (.int .i64 0) ∧ w'.cell? ⟨w.heap.size, 1, none⟩ = some (.slice p1 a.names.length c1) ∧ w'.cell? ⟨w.heap.size, 2, none⟩ = some (.slice p2 a.bs.length c2) ∧ w'.cell? ⟨w.heap.size, 3, none⟩ = some (.int .i64 a.n) ∧ w'.cell? ⟨w.heap.size, 4, none⟩ = some (.slice p3 a.keep.length c3)) := fun w' hb => by
    refine ⟨?_, ?_, ?_, ?_, ?_⟩ <;> rw [blk_cell hb] <;> rfl
  have HCE := Lib.hid hcells
  have HsD := Lib.hid hsD
  have HsR := Lib.hid hsR
  have HLO := Lib.hid hlo
  clear hsD hsR hlo
  have HZ0 := Lib.hid hz
  have HBZ0 := Lib.hid hbz
  have HMZ := Lib.hid hmz
  have HB0 := Lib.hid hBz
  have HW0 := Lib.hid hwlt
  have HK0 := hblk
  have HA := Lib.hid ha
  have HSD := Lib.hid hSD
  have HSR := Lib.hid hSR
  have HHB := Lib.hid hB
  have HH2 := Lib.hid h2
  rw [hv]
  have T0 : True := trivial
  clear h ha ha0 hz hbz hv h1 h2 h3 hcells hmz hBz hSD hSR hwlt hblk hB
  subst hwz
  go_enter Tryd.func9, Tryd.ntmps9
  go_wp2_with fail
  go_region_held3 (fun w' => w'.cell? ⟨w.heap.size, 0, none⟩ = some (.int .i64 0) ∧ w'.cell? ⟨w.heap.size, 1, none⟩ = some (.slice p1 a.names.length c1) ∧ w'.cell? ⟨w.heap.size, 2, none⟩ = some (.slice p2 a.bs.length c2) ∧ w'.cell? ⟨w.heap.size, 3, none⟩ = some (.int .i64 a.n) ∧ w'.cell? ⟨w.heap.size, 4, none⟩ = some (.slice p3 a.keep.length c3)) (first | go_keep | exact HCE.out _ HK0.out | exact HCE.out _ HK1.out | exact HCE.out _ HK2.out | exact HCE.out _ HK3.out | exact HCE.out _ HK4.out)
    (first
      | (go_at_call 17
         have _t := T0
         refine (hNM0.out _ HBZ0.out).mono ?_
         rintro e w1 ⟨rfl, hb1⟩
         have HK1 := Lib.hid ((hb1.block _ HW0.out).trans HK0.out)
         have HW1 := Lib.hid (Nat.lt_of_lt_of_le HW0.out hb1.size)
         have HM1 := Lib.hid (Mod.ofBelow hb1 Nil)
         have HZ1 := Lib.hid (HZ0.out.keptN HM1.out)
         have HBZ1 := Lib.hid (HBZ0.out.trans (hb1.mono HB0.out))
         have HB1 := Lib.hid (Nat.le_trans HB0.out hb1.size)
         have T1 : True := trivial
         clear T0 _t hb1)
      | (go_at_call 14
         have _t := T1
         obtain ⟨fs1, hd1⟩ := HZ1.out.disk
         have HC1 := Lib.hid (append_any hd1 ⟨(a.name 0).toArray⟩ (by have := hnl.out 0; simpa [ByteArray.size] using this) (.slice p2 a.bs.length c2) a.bs (by rw [← HH2.out]; exact (HA.out _ HBZ1.out).bs) HsD.out)
         clear hd1
         refine HC1.out.mono ?_
         rintro e w2 ⟨rfl, hm2, hq2⟩
         have HZ2 := Lib.hid (HZ1.out.afterD HB1.out hm2 hq2)
         have HM2 := Lib.hid hm2
         have HK2 := Lib.hid ((hm2.block _ HW1.out (fun e => Nat.lt_irrefl _ (HSD.out _ e))).trans HK1.out)
         have HW2 := Lib.hid (Nat.lt_of_lt_of_le HW1.out hm2.size)
         have HBZ2 := Lib.hid (HBZ1.out.trans HZ2.out.2)
         have HB2 := Lib.hid (Nat.le_trans HB1.out hm2.size)
         replace HZ2 := Lib.hid HZ2.out.1
         have T2 : True := trivial
         clear T1 _t hm2 hq2 HC1)
      | (go_at_call 17
         have _t := T2
         refine (hNM0.out _ HBZ2.out).mono ?_
         rintro e w3 ⟨rfl, hb3⟩
         have HK3 := Lib.hid ((hb3.block _ HW2.out).trans HK2.out)
         have HW3 := Lib.hid (Nat.lt_of_lt_of_le HW2.out hb3.size)
         have HM3 := Lib.hid (Mod.ofBelow hb3 Nil)
         have HZ3 := Lib.hid (HZ2.out.keptN HM3.out)
         have HBZ3 := Lib.hid (HBZ2.out.trans (hb3.mono HB2.out))
         have HB3 := Lib.hid (Nat.le_trans HB2.out hb3.size)
         have T3 : True := trivial
         clear T2 _t hb3)
      | (go_at_call 18
         have _t := T3
         obtain ⟨lv3, cc3, fs3, hd3⟩ := HZ3.out.ref
         have HC3 := Lib.hid (refAppend_any hd3 (a.name 0) (hnl.out 0) (.slice p2 a.bs.length c2) a.bs (fun w' hm => by rw [← HH2.out]; exact (HA.out _ (HBZ3.out.trans (hm.below HB3.out HZ3.out.lowR))).bs) (fun q n c' e hn hS => by have h1 := HLO.out q n c' (.inr (.inl (HH2.out.trans e))) hn; have h2 := HZ3.out.lowR _ hS; omega) HsR.out)
         clear hd3
         refine HC3.out.mono ?_
         rintro e w4 ⟨rfl, hm4, hq4⟩
         have HZ4 := Lib.hid (HZ3.out.afterR HB3.out hm4 hq4)
         have HM4 := Lib.hid hm4
         have HK4 := Lib.hid ((hm4.block _ HW3.out (fun e => Nat.lt_irrefl _ (HSR.out _ e))).trans HK3.out)
         have HW4 := Lib.hid (Nat.lt_of_lt_of_le HW3.out hm4.size)
         have HBZ4 := Lib.hid (HBZ3.out.trans HZ4.out.2)
         have HB4 := Lib.hid (Nat.le_trans HB3.out hm4.size)
         replace HZ4 := Lib.hid HZ4.out.1
         have T4 : True := trivial
         clear T3 _t hm4 hq4 HC3))
  go_wp2_with fail
  go_ret
  have hq := HZ4.out
  have hans := ea.out stD
  have hans2 := ea.out stR
  unfold DoPost
  rw [hans, hans2]
  exact ⟨rfl, _, _, since_of (((HMZ.out).trans HM1.out (fun _ e => e.elim))) HM2.out (HM3.out) HM4.out, hq⟩

end
end Go.Proofs.YtglkonhhknaomaaDoor
