/- The walk of the law DiskStops. -/
import Derived.Test.YtglkonhhknaomaaDoorEchTwo
import Derived.Deep.QuietTactic
import Derived.BigQuiet
namespace Go.Proofs.YtglkonhhknaomaaDoor
open Go.RowKit Go.Maps

/-- Behind the first acts of the script. -/
def StopsRel (w : World) (acts : List ActM) (room : Nat) (dA mA dB mB r : Nat) (kv iv : Value) (wl : World) : Prop :=
  ∃ (i : Nat) (stA stB : DSt), i ≤ acts.length ∧ iv = .int .i64 (i : Int) ∧ kv = .int .i64 stA.calls ∧ 0 ≤ stA.calls ∧ stA.calls ≤ 19 ∧ stB.calls = -1 ∧ stB = stA.at (-1) ∧ stA.room = room ∧ total stA.files ≤ i * 2000 ∧
    ThreeX w.heap.size wl dA mA dB mB r stA stB ∧ Below w.heap.size w wl

set_option maxRecDepth 100000 in
set_option maxHeartbeats 4000000 in
theorem stops_awake (w : World) (room n : Int) (v : Value) (acts : List ActM) (hacts : ActsAt w v acts) (h : 60 < acts.length ∨ room < 0) :
    Calls Tryd.prog 3 #[.int .i64 room, v, .int .i64 n] w fun e w' => e = .returned (.bool true) ∧ Below w.heap.size w w' := by
  obtain ⟨p, cap, rfl, hl, -⟩ := hacts
  unfold maxLen at hl
  by_cases h60 : 60 < acts.length
  · clear h
    go_enter Tryd.func3, Tryd.ntmps3
    go_wp2_with fail
    refine (awake_any _).mono ?_
    rintro e w1 ⟨rfl, h1⟩
    have H1 := Lib.hid h1
    have hz := h1.size
    clear h1
    go_wp2_with fail
    refine (awake_any _).mono ?_
    rintro e w2 ⟨rfl, h2⟩
    have H2 := Lib.hid (H1.out.trans (h2.mono hz))
    clear h2
    go_wp2_with fail
    go_ret
    exact ⟨rfl, H2.out⟩
  · have hr : room < 0 := by omega
    have h60' : acts.length ≤ 60 := by omega
    clear h h60
    go_enter Tryd.func3, Tryd.ntmps3
    go_wp2_with fail
    refine (awake_any _).mono ?_
    rintro e w1 ⟨rfl, h1⟩
    have H1 := Lib.hid h1
    have hz := h1.size
    clear h1
    go_wp2_with fail
    refine (awake_any _).mono ?_
    rintro e w2 ⟨rfl, h2⟩
    have H2 := Lib.hid (H1.out.trans (h2.mono hz))
    clear h2
    go_wp2_with fail
    go_ret
    exact ⟨rfl, H2.out⟩

theorem rem20 (n : Int) : 0 ≤ (wrap64 (n.tmod 20 + 20)).tmod 20 ∧ (wrap64 (n.tmod 20 + 20)).tmod 20 ≤ 19 := by
  have h1 := Int.tmod_lt_of_pos n (show (0 : Int) < 20 by decide)
  have h2 : -20 < n.tmod 20 := by have := Int.lt_tmod_of_pos n (show (0 : Int) < 20 by decide); omega
  generalize n.tmod 20 = m at *
  have e : wrap64 (m + 20) = m + 20 := by unfold wrap64; omega
  rw [e, Int.tmod_eq_emod_of_nonneg (by omega)]
  omega

set_option maxRecDepth 100000 in
set_option maxHeartbeats 8000000 in
theorem stops_main (w : World) (room n : Int) (v : Value) (acts : List ActM) (hacts : ActsAt w v acts) (h60 : acts.length ≤ 60) (h0 : 0 ≤ room) (h1 : room ≤ 9223372036854775807) (hsz : ∀ a ∈ acts, a.size ≤ 1099511627776) :
    Calls Tryd.prog 3 #[.int .i64 room, v, .int .i64 n] w fun e w' => e = .returned (.bool true) ∧ Below w.heap.size w w' := by
  obtain ⟨p, cap, rfl, hl, hc⟩ := hacts
  obtain ⟨rm, rfl⟩ := Int.eq_ofNat_of_zero_le h0
  have HC := Lib.hid hc
  have HSZ := Lib.hid hsz
  clear hl hc hsz
  go_enter Tryd.func3, Tryd.ntmps3
  go_wp2_with fail
  refine (awake_any _).mono ?_
  rintro e w1 ⟨rfl, hb1⟩
  have H1 := Lib.hid hb1
  have z1 := hb1.size
  clear hb1
  go_wp2_with fail
  refine (new_any w1 rm (by omega)).mono ?_
  rintro e w2 ⟨dA, mA, rfl, hdA, hmA⟩
  have HDA := Lib.hid hdA
  have HMA := Lib.hid hmA
  clear hdA hmA
  go_wp2_with fail
  refine (new_any w2 rm (by omega)).mono ?_
  rintro e w3 ⟨dB, mB, rfl, hdB, hmB⟩
  have HDB := Lib.hid hdB
  have HMB := Lib.hid hmB
  clear hdB hmB
  go_wp2_with fail
  have hk20 := rem20 n
  generalize (wrap64 (n.tmod 20 + 20)).tmod 20 = kk at *
  obtain ⟨hk0, hk19⟩ := hk20
  have h3 := three_new (w := w) z1 HDA.out HMA.out HDB.out HMB.out rm (by omega) rfl
  have hbz : Below w.heap.size w (w3.alloc (.cells #[.int .i64 (rm : Int), .slice none 0 0, .bool false, .int .i64 0] 31)) :=
    (((H1.out.trans (HMA.out.below z1 (fun _ e => e.elim))).trans (HMB.out.below (Nat.le_trans z1 HMA.out.size) (fun _ e => e.elim))).alloc (Nat.le_trans (Nat.le_trans z1 HMA.out.size) HMB.out.size) _)
  have z3 := hbz.size
  obtain ⟨fsA, hdA⟩ := h3.a
  refine (stop_any hdA kk (by omega)).mono ?_
  rintro e w4 ⟨rfl, hdA4, hmA4, -⟩
  obtain ⟨h4, hb4⟩ := h3.modA z3 hmA4 ⟨_, hdA4⟩
  have H4 := Lib.hid h4
  have HB4 := Lib.hid (hbz.trans hb4)
  have hst : Hid ((⟨rm, -1, []⟩ : DSt).stop kk = ⟨rm, kk, []⟩) := by show _ = _; unfold DSt.stop; simp; omega
  clear h3 h4 hb4 hdA4 hmA4 hdA hbz HDA HDB HMA HMB H1
  go_wp2_with fail
  have hrm : rm ≤ 9223372036854775807 := by omega
  have HNM := Lib.hid (names16 HSZ.out)
  go_loopw [12, 13] (fun kv iv wl => StopsRel w acts rm dA mA dB mB w3.heap.size kv iv wl) (fun _ iv _ => acts.length - (intOf iv).toNat)
  case atStart => exact ⟨0, ⟨rm, kk, []⟩, ⟨rm, -1, []⟩, Nat.zero_le _, rfl, rfl, hk0, hk19, rfl, rfl, rfl, by simp [total], ⟨_, _, _, by rw [← hst.out]; exact H4.out⟩, HB4.out⟩
  case round =>
    obtain ⟨i, stA, stB, hi, rfl, rfl, hc0, hc19, hcB, hAB, hroom, htot, h3, hb⟩ := hrel
    have HCB := Lib.hid hcB
    have HAB := Lib.hid hAB
    have HRM := Lib.hid hroom
    have HTT := Lib.hid htot
    have H3 := Lib.hid h3
    have HB := Lib.hid hb
    clear hcB hAB hroom htot h3 hb
    by_cases hlt : i < acts.length
    · obtain ⟨b, off, x, rfl, hblt, ⟨k0, k1, k2, k3, k4⟩, hact, hlow⟩ := HC.out i hlt
      have hsz := HSZ.out acts[i] (List.getElem_mem hlt)
      have HNMA := Lib.hid (HNM.out acts[i] (List.getElem_mem hlt))
      generalize acts[i] = a at *
      have hcells : ∀ w', Below w.heap.size w w' → w'.cell? ⟨b, off + i * 5, none⟩ = some (.int .i64 a.kind) ∧ w'.cell? ⟨b, off + i * 5 + 1, none⟩ = some x.nv ∧ w'.cell? ⟨b, off + i * 5 + 2, none⟩ = some x.bv ∧ w'.cell? ⟨b, off + i * 5 + 3, none⟩ = some (.int .i64 a.n) ∧ w'.cell? ⟨b, off + i * 5 + 4, none⟩ = some x.kv := fun w' h => by
        refine ⟨?_, ?_, ?_, ?_, ?_⟩ <;> rw [h.cell (by exact hblt)] <;> assumption
      have HCE := Lib.hid hcells
      have HACT := Lib.hid hact
      have HLOW := Lib.hid hlow
      have HS : Hid (Calls Tryd.prog 8 #[.agg #[.int .i64 a.kind, x.nv, x.bv, .int .i64 a.n, x.kv]] wr fun e w' => e = .returned (.int .i64 (a.size : Int)) ∧ Below wr.heap.size wr w') := actSize_any (hact wr HB.out) hsz
      obtain ⟨c0, c1, c2, c3, c4⟩ := hcells wr HB.out
      have zr := HB.out.size
      clear k0 k1 k2 k3 k4 hact hlow hcells hsz
      go_wp2_with fail
      refine HS.out.mono ?_
      rintro e w5 ⟨rfl, hb5⟩
      have H5 := Lib.hid (HB.out.trans (hb5.mono zr))
      have H35 := Lib.hid (H3.out.nil (Mod.ofBelow hb5 Nil))
      have z5 := H5.out.size
      obtain ⟨c0, c1, c2, c3, c4⟩ := HCE.out w5 H5.out
      clear hb5
      by_cases hbig : 2000 < a.size
      · go_wp2_with fail
        go_ret
        exact ⟨rfl, H5.out⟩
      · have HBS := Lib.hid (size_bs a)
        by_cases hneg : a.kind < 0 ∨ 4 < a.kind
        · rcases hneg with hneg | hneg
          · go_wp2_with fail
            go_roundw
            case rel => exact ⟨i + 1, stA, stB, by omega, by go_num, rfl, hc0, hc19, HCB.out, HAB.out, HRM.out, by have := HTT.out; omega, H35.out, H5.out⟩
            case measure => simp [intOf]; omega
          · have hneg2 : 0 ≤ a.kind := by omega
            go_wp2_with fail
            go_roundw
            case rel => exact ⟨i + 1, stA, stB, by omega, by go_num, rfl, hc0, hc19, HCB.out, HAB.out, HRM.out, by have := HTT.out; omega, H35.out, H5.out⟩
            case measure => simp [intOf]; omega
        · have hk0' : 0 ≤ a.kind := by omega
          have hk4' : a.kind ≤ 4 := by omega
          clear hneg
          have hfl : a.bs.flatten.length ≤ 2000 := by have := HBS.out; omega
          have htA : total stA.files + a.bs.flatten.length ≤ 1099511627776 := by have := HTT.out; omega
          have hAt : ∀ W, Below w.heap.size w5 W → ∀ w', Below w.heap.size W w' → ActAt w' a x := fun W h1 w' h2 => HACT.out w' ((H5.out.trans h1).trans h2)
          have HAT := Lib.hid hAt
          have HTA := Lib.hid htA
          have HFL := Lib.hid hfl
          have HK0 := Lib.hid hk0'
          have HK4 := Lib.hid hk4'
          clear hAt htA hfl
          by_cases hz : stA.calls = 0
          · have hzb : (stA.calls == 0) = true := by simpa using hz
            have HDO := Lib.hid (do_halted H35.out z5 (HAT.out _ (Below.refl _ _)) HLOW.out HNMA.out HTA.out hrm hk0' hk4' hz)
            have HW : Below w.heap.size w5 (w5.alloc (.cells #[.int .i64 (rm : Int), .slice none 0 0, .bool true, .int .i64 0] 31)) := (Below.refl _ _).alloc z5 _
            obtain ⟨g0, g1, g2, g3, g4⟩ := HCE.out _ (H5.out.trans HW)
            clear hz HW
            go_wp2_with fail
            refine HDO.out.mono ?_
            rintro e w6 ⟨rfl, h36, hb6⟩
            have H36 := Lib.hid h36
            have HB6 := Lib.hid (H5.out.trans hb6)
            clear h36 hb6
            go_wp2_with fail
            go_roundw
            case rel => exact ⟨i + 1, stA, stB, by omega, by go_num, rfl, hc0, hc19, HCB.out, HAB.out, HRM.out, by have := HTT.out; omega, H36.out, HB6.out⟩
            case measure => simp [intOf]; omega
          · have hzb : (stA.calls == 0) = false := by simpa using hz
            have hpos : 0 < stA.calls := by omega
            have HRG := Lib.hid (run_go HK0.out HK4.out hpos)
            have htB : total stB.files + a.bs.flatten.length ≤ 1099511627776 := by rw [HAB.out]; exact HTA.out
            have HW : Below w.heap.size w5 (w5.alloc (.cells #[.int .i64 (rm : Int), .slice none 0 0, .bool true, .int .i64 0] 31)) := (Below.refl _ _).alloc z5 _
            have HDO := Lib.hid (do_both (H35.out.nil ((Mod.refl Nil _).alloc (.cells #[.int .i64 (rm : Int), .slice none 0 0, .bool true, .int .i64 0] 31))) (Nat.le_trans z5 HW.size) (HAT.out _ HW) HLOW.out HNMA.out htB)
            obtain ⟨g0, g1, g2, g3, g4⟩ := HCE.out _ (H5.out.trans HW)
            have HWH := Lib.hid HW
            clear hz htB HW
            go_wp2_with fail
            refine HDO.out.mono ?_
            rintro e w6 ⟨rfl, h36, hb6⟩
            have H36 := Lib.hid h36
            have HB56 := Lib.hid (HWH.out.trans hb6)
            have HB6 := Lib.hid (H5.out.trans HB56.out)
            have z6 := HB6.out.size
            have HDO2 := Lib.hid (do_aside H36.out z6 (HAT.out _ HB56.out) HLOW.out HNMA.out HTA.out hrm)
            have HW : Below w.heap.size w6 (w6.alloc (.cells #[.int .i64 (rm : Int), .slice none 0 0, .bool false, .int .i64 0] 31)) := (Below.refl _ _).alloc z6 _
            obtain ⟨g0, g1, g2, g3, g4⟩ := HCE.out _ (HB6.out.trans HW)
            clear h36 hb6 HW
            go_wp2_with fail
            refine HDO2.out.mono ?_
            rintro e w7 ⟨bb, rfl, h37, hb7⟩
            have H37 := Lib.hid h37
            have HB7 := Lib.hid (HB6.out.trans hb7)
            clear h37 hb7
            go_wp2_with fail
            go_roundw
            case rel =>
              have e1 := HRG.out.1
              have e2 := HRG.out.2
              rw [← HAB.out] at e1 e2
              have ht := run_total a (st := stB) (by obtain ⟨_, _, _, h3⟩ := H3.out; obtain ⟨fs, hd⟩ := h3.b.disk; exact hd.wf)
              have ht2 : total stB.files = total stA.files := by rw [HAB.out]; rfl
              exact ⟨i + 1, (a.run stA).2, (a.run stB).2, by omega, by go_num, by rw [e1]; rfl, by rw [e1]; show 0 ≤ stA.calls - 1; omega, by rw [e1]; show stA.calls - 1 ≤ 19; omega, e2, by rw [e1, at_at]; exact (at_self e2).symm, by rw [run_room]; exact HRM.out,
                by rw [e1, at_files]; have := HTT.out; have := HFL.out; omega, H37.out, HB7.out⟩
            case measure => simp [intOf]; omega
    · have hB0 := HB.out.size
      have H2 := Lib.hid H3.out.two
      have hst2 : stB.crash [1, 2] = stA.crash [1, 2] := by rw [HAB.out, crash_at]
      have HST := Lib.hid hst2
      clear hst2 H3 H4
      have HCA := Lib.hid (crash_two H2.out hB0 (cs := #[.int .i64 1, .int .i64 2]) 3 [1, 2] rfl rfl (by simp [maxLen]) (by simp))
      go_wp2_with fail
      refine HCA.out.mono ?_
      rintro e w5 ⟨g1, rfl, h25, hb5⟩
      have HB5 := Lib.hid (HB.out.trans hb5)
      have z5 := HB5.out.size
      have HCB2 := Lib.hid (crash_two h25.symm z5 (cs := #[.int .i64 1, .int .i64 2]) 3 [1, 2] rfl rfl (by simp [maxLen]) (by simp))
      clear h25 hb5 HCA H2
      go_wp2_with fail
      refine HCB2.out.mono ?_
      rintro e w6 ⟨g2, rfl, h26, hb6⟩
      rw [HST.out] at h26
      have HB6 := Lib.hid (HB5.out.trans hb6)
      have H26 := Lib.hid h26.symm
      clear h26 hb6 HCB2
      generalize stA.crash [1, 2] = st at *
      go_wp2_with fail
      refine (names_two H26.out).mono ?_
      rintro e w7 ⟨vp, rfl, hvp, hb7⟩
      have HVP := Lib.hid hvp
      have H27 := Lib.hid (H26.out.nil (Mod.ofBelow hb7 Nil))
      have HB7 := Lib.hid (HB6.out.trans (hb7.mono HB6.out.size))
      clear hvp hb7
      go_wp2_with fail
      refine (names_two H27.out.symm).mono ?_
      rintro e w8 ⟨vq, rfl, hvq, hb8⟩
      have hvp8 := HVP.out.below hb8
      have H28 := Lib.hid (H27.out.nil (Mod.ofBelow hb8 Nil))
      have HB8 := Lib.hid (HB7.out.trans (hb8.mono HB7.out.size))
      obtain ⟨pp, cp, rfl, hnp, -, hcp⟩ := hvp8
      obtain ⟨pq, cq, rfl, -, -, hcq⟩ := hvq
      have HCP := Lib.hid hcp
      have HCQ := Lib.hid hcq
      have hnl : (namesOf st.files).length = st.files.length := by simp [namesOf]
      have HNL := Lib.hid hnl
      have hcount : (namesOf st.files).length ≤ 4096 := by
        obtain ⟨SA, SB, ⟨fs, hA⟩, -⟩ := H28.out
        have := hA.wf.count
        omega
      clear hb8 hcp hcq hnl hnp HVP H26 H27
      go_wp2_with fail
      refine (free_two H28.out).mono ?_
      rintro e w9 ⟨rfl, hb9⟩
      have H29 := Lib.hid (H28.out.nil (Mod.ofBelow hb9 Nil))
      have HB9 := Lib.hid (HB8.out.trans (hb9.mono HB8.out.size))
      have HN9 := Lib.hid hb9
      clear hb9
      go_wp2_with fail
      refine (free_two H29.out.symm).mono ?_
      rintro e w10 ⟨rfl, hb10⟩
      have H210 := Lib.hid (H29.out.nil (Mod.ofBelow hb10 Nil))
      have HB10 := Lib.hid (HB9.out.trans (hb10.mono HB9.out.size))
      have HN10 := Lib.hid (HN9.out.trans (hb10.mono HN9.out.size))
      clear hb10 H28 H29 HB8 HB9 HN9
      go_wp2_with fail
      have HCP2 : Hid (∀ W, Below w10.heap.size w10 W → ∀ i (hi : i < st.files.length), ∃ b off, pp = some ⟨b, off, none⟩ ∧ W.cell? ⟨b, off + i, none⟩ = some (.string ⟨st.files[i].name.toArray⟩)) := fun W hW i hi => by
        obtain ⟨b, off, e, hc⟩ := HCP.out i (by rw [HNL.out]; exact hi)
        refine ⟨b, off, e, ?_⟩
        have h1 := World.block_lt_of_cell? w8 _ hc
        rw [hW.cell (p := ⟨b, off + i, none⟩) (Nat.lt_of_lt_of_le h1 HN10.out.size), HN10.out.cell (p := ⟨b, off + i, none⟩) h1, hc]
        simp [namesOf, encS]
      have HCQ2 : Hid (∀ W, Below w10.heap.size w10 W → ∀ i (hi : i < st.files.length), ∃ b off, pq = some ⟨b, off, none⟩ ∧ W.cell? ⟨b, off + i, none⟩ = some (.string ⟨st.files[i].name.toArray⟩)) := fun W hW i hi => by
        obtain ⟨b, off, e, hc⟩ := HCQ.out i (by rw [HNL.out]; exact hi)
        refine ⟨b, off, e, ?_⟩
        have h1 := World.block_lt_of_cell? w8 _ hc
        rw [hW.cell (p := ⟨b, off + i, none⟩) (Nat.lt_of_lt_of_le h1 HN10.out.size), HN10.out.cell (p := ⟨b, off + i, none⟩) h1, hc]
        simp [namesOf, encS]
      have hnl := HNL.out
      rw [hnl] at hcount ⊢
      clear HCP HCQ hnl HN10 HC HSZ HNM
      go_loopw [18] (fun iv wl => ∃ j : Nat, j ≤ st.files.length ∧ iv = .int .i64 (j : Int) ∧ Hid (TwoX w.heap.size wl dA mA dB mB st st) ∧ Hid (Below w.heap.size w wl) ∧ Hid (Below w10.heap.size w10 wl)) (fun iv _ => st.files.length - (intOf iv).toNat)
      case atStart => exact ⟨0, Nat.zero_le _, rfl, H210, HB10, Below.refl _ _⟩
      case round =>
        obtain ⟨j, hj, rfl, HT, HBW, HBX⟩ := hrel
        rename World => wl
        by_cases hjl : j < st.files.length
        · obtain ⟨b, off, rfl, cp1⟩ := HCP2.out wl HBX.out j hjl
          obtain ⟨b', off', rfl, cq1⟩ := HCQ2.out wl HBX.out j hjl
          have hcp : ∀ W, Below w10.heap.size w10 W → W.cell? ⟨b, off + j, none⟩ = some (.string ⟨st.files[j].name.toArray⟩) := fun W h => by
            obtain ⟨b2, o2, e, hc⟩ := HCP2.out W h j hjl
            cases e
            exact hc
          have hcq : ∀ W, Below w10.heap.size w10 W → W.cell? ⟨b', off' + j, none⟩ = some (.string ⟨st.files[j].name.toArray⟩) := fun W h => by
            obtain ⟨b2, o2, e, hc⟩ := HCQ2.out W h j hjl
            cases e
            exact hc
          have HRA := Lib.hid (read_two HT.out j hjl)
          have HRB : Hid (∀ W, TwoX w.heap.size W dA mA dB mB st st → Calls Tryd.prog 13 #[.pointer (some ⟨dB, 0, none⟩), .string ⟨st.files[j].name.toArray⟩] W fun e w' => ∃ v, e = .returned (.tuple #[v, .bool true]) ∧ OwnBytes w' v st.files[j].data ∧ Below W.heap.size W w') := fun W h => read_two h.symm j hjl
          have HCP3 := Lib.hid hcp
          have HCQ3 := Lib.hid hcq
          have hjz : (0 : Int) ≤ (j : Int) := by omega
          have hjc : (j : Int) < (st.files.length : Int) := by omega
          clear hcp hcq
          generalize st.files[j] = f at *
          go_wp2_with fail
          refine HRA.out.mono ?_
          rintro e w11 ⟨va, rfl, hva, hb11⟩
          have HX11 := Lib.hid (HBX.out.trans (hb11.mono HBX.out.size))
          have HW11 := Lib.hid (HBW.out.trans (hb11.mono HBW.out.size))
          have HT11 := Lib.hid (HT.out.nil (Mod.ofBelow hb11 Nil))
          have HVA := Lib.hid hva
          have cq1 := HCQ3.out w11 HX11.out
          clear hva hb11 HRA cp1
          go_wp2_with fail
          refine (HRB.out w11 HT11.out).mono ?_
          rintro e w12 ⟨vb, rfl, hvb, hb12⟩
          have HX12 := Lib.hid (HX11.out.trans (hb12.mono HX11.out.size))
          have HW12 := Lib.hid (HW11.out.trans (hb12.mono HW11.out.size))
          have HT12 := Lib.hid (HT11.out.nil (Mod.ofBelow hb12 Nil))
          have cp1 := HCP3.out w12 HX12.out
          have cq1 := HCQ3.out w12 HX12.out
          have hv1 := conv_string (w := w12.drew) (HVA.out.kept (((Mod.ofBelow hb12 Nil)).drew) (fun _ _ e => e)).at
          have hv2 := conv_string (w := w12.drew) (hvb.kept ((Mod.refl Nil w12).drew) (fun _ _ e => e)).at
          clear hvb hb12 HRB
          go_wp2_with fail
          go_region_held3 (fun w' => w'.cell? ⟨b, off + j, none⟩ = some (.string ⟨f.name.toArray⟩) ∧ w'.cell? ⟨b', off' + j, none⟩ = some (.string ⟨f.name.toArray⟩) ∧ (convert 42 9 va).run Tryd.prog w' = .ok (.string ⟨f.data.toArray⟩) w' ∧ (convert 42 9 vb).run Tryd.prog w' = .ok (.string ⟨f.data.toArray⟩) w') (first | exact ⟨cp1, cq1, hv1, hv2⟩ | go_keep) (fail)
          go_wp2_with fail
          exact ⟨⟨j + 1, by omega, by go_num, HT12.out.nil ((Mod.refl Nil _).drew), HW12.out.drew, HX12.out.drew⟩, by simp [intOf]; omega⟩
        · have HAP := Lib.hid (append_two HT.out HBW.out.size ⟨#[97]⟩ (by simp [ByteArray.size]; unfold maxLen; omega))
          go_wp2_with fail
          refine HAP.out.mono ?_
          rintro e w11 ⟨rfl, h211, hb11⟩
          have HB11 := Lib.hid (HBW.out.trans hb11)
          have HAP2 := Lib.hid (append_two h211.symm HB11.out.size ⟨#[97]⟩ (by simp [ByteArray.size]; unfold maxLen; omega))
          clear h211 hb11
          go_wp2_with fail
          refine HAP2.out.mono ?_
          rintro e w12 ⟨rfl, -, hb12⟩
          have HB12 := Lib.hid (HB11.out.trans hb12)
          clear hb12
          go_wp2_with fail
          go_ret
          exact ⟨rfl, HB12.out⟩

end Go.Proofs.YtglkonhhknaomaaDoor
