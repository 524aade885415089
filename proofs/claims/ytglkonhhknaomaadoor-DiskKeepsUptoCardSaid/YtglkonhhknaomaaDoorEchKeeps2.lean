/- The walk of the law DiskKeeps, on. -/
import Derived.Test.YtglkonhhknaomaaDoorEchKeeps
namespace Go.Proofs.YtglkonhhknaomaaDoor
open Go.RowKit Go.Maps

set_option maxRecDepth 100000 in
set_option maxHeartbeats 4000000 in
theorem keeps_awake (w : World) (room : Int) (v kv : Value) (acts : List ActM) (hacts : ActsAt w v acts) (h : 60 < acts.length ∨ room < 0) :
    Calls Tryd.prog 4 #[.int .i64 room, v, kv] w fun e w' => e = .returned (.bool true) ∧ Below w.heap.size w w' := by
  obtain ⟨p, cap, rfl, hl, -⟩ := hacts
  unfold maxLen at hl
  by_cases h60 : 60 < acts.length
  · clear h
    go_enter Tryd.func4, Tryd.ntmps4
    go_wp2_with fail
    refine (awake_any _).mono ?_
    rintro e w1 ⟨rfl, h1⟩
    have H1 := Lib.hid h1
    have hz := h1.size
    clear h1
    go_wp2_with fail
    refine (awake_any _).mono ?_
    rintro e w2 ⟨rfl, h2⟩
    have H2 := Lib.hid (H1.out.trans (h2.mono hz))
    clear h2
    go_wp2_with fail
    go_ret
    exact ⟨rfl, H2.out⟩
  · have hr : room < 0 := by omega
    have h60' : acts.length ≤ 60 := by omega
    clear h h60
    go_enter Tryd.func4, Tryd.ntmps4
    go_wp2_with fail
    refine (awake_any _).mono ?_
    rintro e w1 ⟨rfl, h1⟩
    have H1 := Lib.hid h1
    have hz := h1.size
    clear h1
    go_wp2_with fail
    refine (awake_any _).mono ?_
    rintro e w2 ⟨rfl, h2⟩
    have H2 := Lib.hid (H1.out.trans (h2.mono hz))
    clear h2
    go_wp2_with fail
    go_ret
    exact ⟨rfl, H2.out⟩

set_option maxRecDepth 100000 in
set_option maxHeartbeats 8000000 in
theorem keeps_main (w : World) (room : Int) (v kv : Value) (acts : List ActM) (ks : List Int) (hacts : ActsAt w v acts) (hks : ∀ w', Below w.heap.size w w' → IntsAt w' kv ks) (hkl : ∀ q n c, kv = .slice (some q) n c → 0 < n → q.block < w.heap.size)
    (h60 : acts.length ≤ 60) (h0 : 0 ≤ room) (h1 : room ≤ 9223372036854775807) (hsz : ∀ a ∈ acts, a.size ≤ 1099511627776) :
    Calls Tryd.prog 4 #[.int .i64 room, v, kv] w fun e w' => e = .returned (.bool true) ∧ Below w.heap.size w w' := by
  obtain ⟨p, cap, rfl, hl, hc⟩ := hacts
  obtain ⟨pk, ck, rfl, -, -, -⟩ := hks w (Below.refl _ _)
  obtain ⟨rm, rfl⟩ := Int.eq_ofNat_of_zero_le h0
  have HC := Lib.hid hc
  have HSZ := Lib.hid hsz
  have HKS := Lib.hid hks
  have HKL := Lib.hid hkl
  clear hl hc hsz hks hkl
  go_enter Tryd.func4, Tryd.ntmps4
  go_wp2_with fail
  refine (awake_any _).mono ?_
  rintro e w1 ⟨rfl, hb1⟩
  have H1 := Lib.hid hb1
  have z1 := hb1.size
  clear hb1
  go_wp2_with fail
  refine (new_any w1 rm (by omega)).mono ?_
  rintro e w2 ⟨d, mb, rfl, hdA, hmA⟩
  have H3 := Lib.hid (both_new z1 hdA hmA rm (by omega) rfl)
  have HBZ := Lib.hid ((H1.out.trans (hmA.below z1 (fun _ e => e.elim))).alloc (Nat.le_trans z1 hmA.size) (.cells #[.int .i64 (rm : Int), .slice none 0 0, .bool false, .int .i64 0] 31))
  clear hdA hmA
  go_wp2_with fail
  have hrm : rm ≤ 9223372036854775807 := by omega
  have HNM := Lib.hid (names16 HSZ.out)
  go_loopw [10] (fun iv wl => KeepsRel w acts d mb w2.heap.size iv wl) (fun iv _ => acts.length - (intOf iv).toNat)
  case atStart => exact ⟨0, ⟨rm, -1, []⟩, Nat.zero_le _, rfl, by simp [total], H3.out, HBZ.out⟩
  case round =>
    obtain ⟨i, st, hi, rfl, htot, h3, hb⟩ := hrel
    have HTT := Lib.hid htot
    have H3 := Lib.hid h3
    have HB := Lib.hid hb
    clear htot h3 hb
    by_cases hlt : i < acts.length
    · obtain ⟨b, off, x, rfl, hblt, ⟨k0, k1, k2, k3, k4⟩, hact, hlow⟩ := HC.out i hlt
      have hsz := HSZ.out acts[i] (List.getElem_mem hlt)
      have HNMA := Lib.hid (HNM.out acts[i] (List.getElem_mem hlt))
      generalize acts[i] = a at *
      have hcells : ∀ w', Below w.heap.size w w' → w'.cell? ⟨b, off + i * 5, none⟩ = some (.int .i64 a.kind) ∧ w'.cell? ⟨b, off + i * 5 + 1, none⟩ = some x.nv ∧ w'.cell? ⟨b, off + i * 5 + 2, none⟩ = some x.bv ∧ w'.cell? ⟨b, off + i * 5 + 3, none⟩ = some (.int .i64 a.n) ∧ w'.cell? ⟨b, off + i * 5 + 4, none⟩ = some x.kv := fun w' h => by
        refine ⟨?_, ?_, ?_, ?_, ?_⟩ <;> rw [h.cell (by exact hblt)] <;> assumption
      have HCE := Lib.hid hcells
      have HACT := Lib.hid hact
      have HLOW := Lib.hid hlow
      have HS : Hid (Calls Tryd.prog 8 #[.agg #[.int .i64 a.kind, x.nv, x.bv, .int .i64 a.n, x.kv]] wr fun e w' => e = .returned (.int .i64 (a.size : Int)) ∧ Below wr.heap.size wr w') := actSize_any (hact wr HB.out) hsz
      obtain ⟨c0, c1, c2, c3, c4⟩ := hcells wr HB.out
      have zr := HB.out.size
      clear k0 k1 k2 k3 k4 hact hlow hcells hsz
      go_wp2_with fail
      refine HS.out.mono ?_
      rintro e w5 ⟨rfl, hb5⟩
      have H5 := Lib.hid (HB.out.trans (hb5.mono zr))
      have H35 := Lib.hid (H3.out.nil (Mod.ofBelow hb5 Nil))
      have z5 := H5.out.size
      obtain ⟨c0, c1, c2, c3, c4⟩ := HCE.out w5 H5.out
      clear hb5
      by_cases hbig : 2000 < a.size
      · go_wp2_with fail
        go_ret
        exact ⟨rfl, H5.out⟩
      · have HBS := Lib.hid (size_bs a)
        have hfl : a.bs.flatten.length ≤ 2000 := by have := HBS.out; omega
        have htA : total st.files + a.bs.flatten.length ≤ 1099511627776 := by have := HTT.out; omega
        have HDO := Lib.hid (do_one H35.out z5 (fun w' h2 => HACT.out w' (H5.out.trans h2)) HLOW.out HNMA.out htA)
        have HFL := Lib.hid hfl
        clear htA hfl
        go_wp2_with fail
        refine HDO.out.mono ?_
        rintro e w6 ⟨rfl, h36, hb6⟩
        have H36 := Lib.hid h36
        have HB6 := Lib.hid (H5.out.trans hb6)
        clear h36 hb6
        go_wp2_with fail
        go_roundw
        case rel =>
          have ht := run_total a (st := st) (by obtain ⟨_, _, h3⟩ := H3.out; obtain ⟨fs, hd⟩ := h3.disk; exact hd.wf)
          exact ⟨i + 1, (a.run st).2, by omega, by go_num, by have := HTT.out; have := HFL.out; omega, H36.out, HB6.out⟩
        case measure => simp [intOf]; omega
    · obtain ⟨SD, SR, hbo⟩ := H3.out
      obtain ⟨fs0, hd⟩ := hbo.disk
      have HLD := Lib.hid hbo.lowD
      have HD := Lib.hid hd
      have HWF := Lib.hid hd.wf
      have HN := Lib.hid (names_any hd)
      have hcnt : st.files.length ≤ 4096 := hd.wf.count
      clear hbo hd H3 HC HSZ HNM HTT
      go_wp2_with fail
      refine HN.out.mono ?_
      rintro e w5 ⟨vn, rfl, hvn, hb5⟩
      have hsn := StrsAt.ofNew hvn (fun x hx => by
        obtain ⟨f, hf, rfl⟩ := List.mem_map.1 hx
        have := HWF.out.names f hf
        unfold maxLen; omega)
      obtain ⟨pn, cn, rfl, -, -, hcn⟩ := hsn
      have hnl : (namesOf st.files).length = st.files.length := by simp [namesOf]
      have HNB : Hid (∀ a, pn = some a → wr.heap.size ≤ a.block) := fun a e => by
        subst e
        exact (World.ownsRow.lt hvn a.block rfl).1
      have HCN : Hid (∀ W : World, (∀ b o, wr.heap.size ≤ b → b < w5.heap.size → W.cell? ⟨b, o, none⟩ = w5.cell? ⟨b, o, none⟩) → ∀ i (hi : i < st.files.length), ∃ b off, pn = some ⟨b, off, none⟩ ∧ W.cell? ⟨b, off + i, none⟩ = some (.string ⟨st.files[i].name.toArray⟩)) := fun W hW i hi => by
        obtain ⟨b, off, e, hc⟩ := hcn i (by rw [hnl]; exact hi)
        refine ⟨b, off, e, ?_⟩
        rw [hW b _ (HNB.out _ e) (World.block_lt_of_cell? w5 _ hc), hc]
        simp [namesOf, encS]
      rw [hnl]
      have HB5 := Lib.hid (HB.out.trans (hb5.mono HB.out.size))
      have HD5 := Lib.hid (HD.out.kept (Mod.ofBelow hb5 Nil) (fun _ _ e => e))
      have HS5 : Hid (∀ k, SD k → k < wr.heap.size) := HD.out.inS
      have z5 : wr.heap.size ≤ w5.heap.size := hb5.size
      have htot0 : total st.files ≤ 1099511627776 := HWF.out.small
      clear hvn hcn hnl hb5 HN HD
      go_wp2_with fail
      go_loopw [11, 12, 14, 15] (fun wv sv av iv wl => ∃ (i : Nat) (vs : List Value), i ≤ st.files.length ∧ iv = .int .i64 (i : Int) ∧ av = .int .i64 (total (st.files.take i) : Int) ∧ Hid (ToldAt w5 wl st.files i wv sv vs) ∧ Hid (Mod Nil w5 wl)) (fun _ _ _ iv _ => st.files.length - (intOf iv).toNat)
      case atStart =>
        refine ⟨0, [], Nat.zero_le _, rfl, by simp [total], ?_, Mod.refl _ _⟩
        exact told_start w5 w5 st.files
      case round =>
        obtain ⟨i, vs, hi, rfl, rfl, HT, HM⟩ := hrel
        rename World => wl
        by_cases hil : i < st.files.length
        · have hcW : ∀ W, Mod Nil w5 W → ∀ b o, wr.heap.size ≤ b → b < w5.heap.size → W.cell? ⟨b, o, none⟩ = w5.cell? ⟨b, o, none⟩ := fun W hW b o _ h2 => hW.cell (p := ⟨b, o, none⟩) h2 (fun e => e)
          obtain ⟨bn, on, rfl, cn0⟩ := HCN.out wl (hcW wl HM.out) i hil
          have hcn : ∀ W, Mod Nil w5 W → W.cell? ⟨bn, on + i, none⟩ = some (.string ⟨st.files[i].name.toArray⟩) := fun W hW => by
            obtain ⟨b2, o2, e, hc⟩ := HCN.out W (hcW W hW) i hil
            cases e
            exact hc
          have hnm : st.files[i].name.toArray.size ≤ maxLen := by
            have := HWF.out.names _ (List.getElem_mem hil)
            rw [List.size_toArray]
            unfold maxLen; omega
          have hdl := HD5.out.kept HM.out (fun _ _ e => e)
          have HRA := Lib.hid (read_some hdl ⟨st.files[i].name.toArray⟩ hnm st.files[i] (findF_get HWF.out i hil))
          have HSA : Hid (∀ W, DiskAt W SD d mb st fs0 → Calls Tryd.prog 15 #[.pointer (some ⟨d, 0, none⟩), .string ⟨st.files[i].name.toArray⟩] W fun e w' => e = .returned (.int .i64 (st.files[i].safe : Int)) ∧ w' = W) := fun W hW => by
            have := safe_any hW ⟨st.files[i].name.toArray⟩ hnm
            rw [show safeOf st.files (⟨st.files[i].name.toArray⟩ : ByteArray).data.toList = st.files[i].safe from safeOf_get HWF.out i hil] at this
            exact this
          have htk := total_take_succ st.files i hil
          have htl := total_take_le st.files (i + 1)
          have HTK := Lib.hid htk
          have hsum : total (st.files.take i) + st.files[i].data.length ≤ 1099511627776 := by omega
          have HCN3 := Lib.hid hcn
          have hiz : (0 : Int) ≤ (i : Int) := by omega
          have hic : (i : Int) < (st.files.length : Int) := by omega
          have hsafe0 := HWF.out.safe _ (List.getElem_mem hil)
          clear hcW hcn hnm hdl htk htl
          go_wp2_with fail
          refine HRA.out.mono ?_
          rintro e w6 ⟨u, rfl, hu, hb6⟩
          obtain ⟨ua, uc, rfl⟩ := own_slice hu.1
          have HM6 := Lib.hid (HM.out.thenBelow hb6)
          have HT6 := Lib.hid (HT.out.kept (Mod.ofBelow hb6 Nil) (fun _ _ e => e))
          have hz6 := HM6.out.size
          have hub := HT.out.fresh hi HM.out.size hu.2
          obtain ⟨wv', w7, hr7, hm7, ho7, hs7, he7, hne7, hnw7⟩ := HT6.out.was1 hil hz6 hu.1 hub (by omega) 42 34
          have HM7 := Lib.hid (HM6.out.trans hm7 (fun _ h => .inr h))
          have HD7 := Lib.hid ((HD5.out.kept HM7.out (fun _ _ e => e)))
          have hz7 := HM7.out.size
          obtain ⟨sv', w8, hr8, hm8, HT8⟩ := told_safe1 (w5 := w5) (l := st.files) (i := i) (by rw [List.length_append, HT.out.len]; rfl) ho7 hs7 hil hz7 he7 hne7 hnw7 HT.out.newS (by omega) 3 35
          have HM8 := Lib.hid (HM7.out.trans hm8 (fun _ h => .inr h))
          have cn7 := HCN3.out w7 HM7.out
          have F7 := Lib.hid hr7
          have F8 := Lib.hid hr8
          have HTF := Lib.hid HT8
          clear hu hb6 hub hr7 hm7 ho7 hs7 he7 hne7 hnw7 hr8 hm8 HT8
          go_wp2_with (at_builtin; refine Lib.wpList_append_run_sl _ rfl _ _ 34 rfl _ _ rfl rfl F7.out ?_)
          refine (HSA.out w7 HD7.out).mono ?_
          rintro e w' ⟨rfl, rfl⟩
          go_wp2_with (at_builtin; refine Lib.wpList_append_run_sl _ rfl _ _ 35 rfl _ _ rfl rfl F8.out ?_)
          go_roundw
          case rel => exact ⟨i + 1, _, by omega, by go_num, by rw [HTK.out]; go_num, HTF, HM8⟩
          case measure => simp [intOf]; omega
        · have hie : i = st.files.length := by omega
          subst hie
          rw [List.take_length]
          obtain ⟨pw, cw, rfl, -, -, -⟩ := row_form HT.out.was
          obtain ⟨ps, cs, rfl, -, -, -⟩ := row_form HT.out.safe
          have hdl := HD5.out.kept HM.out (fun _ _ e => e)
          have HBL := Lib.hid (HB5.out.trans (HM.out.below HB5.out.size (fun _ e => e.elim)))
          have HCR := Lib.hid (crash_any hdl (.slice pk ks.length ck) ks (HKS.out wl HBL.out) (fun q n c e hn hS => by have h1 := HKL.out q n c e hn; have h2 := HLD.out _ hS; omega))
          clear hdl hil
          go_wp2_with fail
          refine HCR.out.mono ?_
          rintro e w9 ⟨rfl, hm9, fs9, hd9⟩
          have HT9 := Lib.hid (HT.out.kept hm9 (fun k hk e => by have := HS5.out k e; omega))
          have HB9 := Lib.hid (HBL.out.trans (hm9.below HBL.out.size HLD.out))
          have HCN9 : Hid (∀ W, Mod Nil w9 W → ∀ i (hi : i < st.files.length), ∃ b off, pn = some ⟨b, off, none⟩ ∧ W.cell? ⟨b, off + i, none⟩ = some (.string ⟨st.files[i].name.toArray⟩)) := fun W hW i hi => by
            refine HCN.out W (fun b o g1 g2 => ?_) i hi
            have g3 : b < wl.heap.size := Nat.lt_of_lt_of_le g2 HM.out.size
            rw [hW.cell (p := ⟨b, o, none⟩) (Nat.lt_of_lt_of_le g3 hm9.size) (fun e => e), hm9.cell (p := ⟨b, o, none⟩) g3 (fun e => by have := HS5.out b e; omega), HM.out.cell (p := ⟨b, o, none⟩) g2 (fun e => e)]
          have HD9 := Lib.hid hd9
          have hgone : goneF st.files ks + total (crashF st.files ks) = total st.files := gone_total st.files ks
          have HG := Lib.hid hgone
          have hgle := goneF_le st.files ks
          have hcl : (crashF st.files ks).length = st.files.length := crashF_length st.files ks
          have HCL := Lib.hid hcl
          clear hm9 hd9 hgone HCR HT HM HD5 HCN hcl
          go_wp2_with fail
          go_loopw [19, 20] (fun lv iv wl => ∃ i : Nat, i ≤ st.files.length ∧ iv = .int .i64 (i : Int) ∧ lv = .int .i64 (total ((crashF st.files ks).take i) : Int) ∧ Hid (Mod Nil w9 wl)) (fun _ iv _ => st.files.length - (intOf iv).toNat)
          case atStart => exact ⟨0, Nat.zero_le _, rfl, by simp [total], Mod.refl _ _⟩
          case round =>
            obtain ⟨i, hi, rfl, rfl, HM⟩ := hrel
            rename World => wt
            by_cases hil : i < st.files.length
            · obtain ⟨bn, on, rfl, cn0⟩ := HCN9.out wt HM.out i hil
              have hcn : ∀ W, Mod Nil w9 W → W.cell? ⟨bn, on + i, none⟩ = some (.string ⟨st.files[i].name.toArray⟩) := fun W hW => by
                obtain ⟨b2, o2, e, hc⟩ := HCN9.out W hW i hil
                cases e
                exact hc
              obtain ⟨s, hs, hs1, hs2⟩ := crash_at_i HWF.out ks i hil
              have hic2 : i < (crashF st.files ks).length := by rw [HCL.out]; exact hil
              have hf' : (crashF st.files ks)[i] = ⟨st.files[i].name, st.files[i].data.take s, s⟩ := by rw [crash_get _ _ _ hil, cr, hs]
              have hnm : st.files[i].name.toArray.size ≤ maxLen := by
                have := HWF.out.names _ (List.getElem_mem hil)
                rw [List.size_toArray]
                unfold maxLen; omega
              have hff : findF (crashF st.files ks) st.files[i].name = some ⟨st.files[i].name, st.files[i].data.take s, s⟩ := by
                have := findF_get HD9.out.wf i hic2
                rw [show (st.crash ks).files[i]'hic2 = (crashF st.files ks)[i] from rfl, hf'] at this
                exact this
              have hdl := HD9.out.kept HM.out (fun _ _ e => e)
              have HRA := Lib.hid (read_some hdl ⟨st.files[i].name.toArray⟩ hnm _ hff)
              have HSA : Hid (∀ W, Mod Nil w9 W → Calls Tryd.prog 15 #[.pointer (some ⟨d, 0, none⟩), .string ⟨st.files[i].name.toArray⟩] W fun e w' => e = .returned (.int .i64 (s : Int)) ∧ w' = W) := fun W hW => by
                have := safe_any (HD9.out.kept hW (fun _ _ e => e)) ⟨st.files[i].name.toArray⟩ hnm
                rw [show safeOf (st.crash ks).files (⟨st.files[i].name.toArray⟩ : ByteArray).data.toList = s from by unfold safeOf; rw [show findF (st.crash ks).files (⟨st.files[i].name.toArray⟩ : ByteArray).data.toList = _ from hff]] at this
                exact this
              have htk := total_take_succ (crashF st.files ks) i hic2
              have htl := total_take_le (crashF st.files ks) (i + 1)
              have htc := total_crash st.files ks
              rw [hf'] at htk
              have hlen' : (st.files[i].data.take s).length = s := by rw [List.length_take]; omega
              simp only [hlen'] at htk
              have HTK := Lib.hid htk
              have hsum : total ((crashF st.files ks).take i) + s ≤ 1099511627776 := by omega
              have hvi : i < vs.length := by rw [HT9.out.len]; exact hil
              obtain ⟨hov, -⟩ := HT9.out.each i hvi hil
              obtain ⟨_, _, ew, -, -, hwc⟩ := row_form HT9.out.was
              cases ew
              obtain ⟨bw, uw, rfl, huw, hcw⟩ := hwc i hil
              obtain ⟨_, _, es, -, -, hsc⟩ := row_form HT9.out.safe
              cases es
              obtain ⟨bs, us, rfl, hus, hcs⟩ := hsc i hil
              have huw2 : uw = vs[i] := by rw [List.getElem?_eq_getElem hvi] at huw; exact (Option.some.inj huw).symm
              have hus2 : us = .int .i64 (st.files[i].safe : Int) := by
                rw [List.take_length, List.getElem?_map, List.getElem?_eq_getElem hil] at hus
                exact (Option.some.inj hus).symm
              subst hus2
              obtain ⟨va, vc, hva⟩ := own_slice hov
              rw [← huw2] at hov hva
              subst hva
              have hvc : st.files[i].data.length ≤ vc := by
                rcases hov.form with ⟨e, e2⟩ | ⟨g, cap, cur, e, -, h1, -⟩
                · rw [e2]; exact Nat.zero_le _
                · cases e; exact h1
              have hcw2 : ∀ W, Mod Nil w9 W → W.cell? ⟨bw, i, none⟩ = some (.slice va st.files[i].data.length vc) := fun W hW => (hW.cell (p := ⟨bw, i, none⟩) (World.block_lt_of_cell? w9 _ hcw) (fun e => e)).trans hcw
              have hcs2 : ∀ W, Mod Nil w9 W → W.cell? ⟨bs, i, none⟩ = some (.int .i64 (st.files[i].safe : Int)) := fun W hW => (hW.cell (p := ⟨bs, i, none⟩) (World.block_lt_of_cell? w9 _ hcs) (fun e => e)).trans hcs
              have hov2 : ∀ W, Mod Nil w9 W → BytesAt W (.slice va s vc) (st.files[i].data.take s) := fun W hW => bytes_take (hov.kept hW (fun _ _ e => e)).at s hs2
              have HCN3 := Lib.hid hcn
              have HCW := Lib.hid hcw2
              have HCS := Lib.hid hcs2
              have HOV := Lib.hid hov2
              have hiz : (0 : Int) ≤ (i : Int) := by omega
              have hic : (i : Int) < (st.files.length : Int) := by omega
              have hsz0 : (0 : Int) ≤ (s : Int) := by omega
              have hsvc : (s : Int) ≤ (vc : Int) := by omega
              have HL := Lib.hid hlen'
              clear hcw hcs hcw2 hcs2 hov hov2 hcn hwc hsc huw hus huw2 hf' hff hnm hdl htk htl htc hs hic2 hlen' hvi
              go_wp2_with fail
              refine HRA.out.mono ?_
              rintro e w10 ⟨u, rfl, hu, hb10⟩
              obtain ⟨ua, uc, rfl⟩ := own_slice hu.1
              have hub : BytesAt w10 (.slice ua (st.files[i].data.take s).length uc) (st.files[i].data.take s) := hu.1.at
              rw [HL.out] at hub ⊢
              have HM10 := Lib.hid (HM.out.thenBelow hb10)
              have HM10d := Lib.hid (HM10.out.drew)
              have cn1 := HCN3.out _ HM10d.out
              have cw1 := HCW.out _ HM10d.out
              have cs1 := HCS.out _ HM10d.out
              have hv1 := conv_string (w := w10.drew) (HOV.out _ HM10d.out)
              have hv2 := conv_string (w := w10.drew) (show BytesAt w10.drew (.slice ua s uc) (st.files[i].data.take s) from hub.kept ((Mod.refl Nil w10).drew) (fun _ _ e => e))
              have HSD := Lib.hid (HSA.out _ HM10d.out)
              generalize st.files[i] = f at *
              have hd1 : decide (s < f.safe) = false := by simpa using hs1
              have hd2 : decide (f.data.length < s) = false := by simpa using hs2
              have hd3 : decide ((s : Int) < (f.safe : Int)) = false := by simp; omega
              have hd4 : decide ((f.data.length : Int) < (s : Int)) = false := by simp; omega
              clear hu hb10 hub HRA HSA
              go_wp2_with fail
              go_region_held3 (fun w' => w'.cell? ⟨bn, on + i, none⟩ = some (.string ⟨f.name.toArray⟩) ∧ w'.cell? ⟨bw, i, none⟩ = some (.slice va f.data.length vc) ∧ w'.cell? ⟨bs, i, none⟩ = some (.int .i64 (f.safe : Int)) ∧ (convert 42 9 (.slice va s vc)).run Tryd.prog w' = .ok (.string ⟨(f.data.take s).toArray⟩) w' ∧ (convert 42 9 (.slice ua s uc)).run Tryd.prog w' = .ok (.string ⟨(f.data.take s).toArray⟩) w') (first | exact ⟨cn1, cw1, cs1, hv1, hv2⟩ | go_keep)
                (first
                  | (go_at_call 15
                     refine HSD.out.mono ?_
                     rintro e w' ⟨rfl, rfl⟩))
              go_wp2_with fail
              exact ⟨⟨i + 1, by omega, by go_num, by rw [HTK.out]; go_num, HM10d⟩, by simp [intOf]; omega⟩
            · have hie : i = st.files.length := by omega
              subst hie
              have htk : (crashF st.files ks).take st.files.length = crashF st.files ks := by rw [← HCL.out, List.take_length]
              rw [htk]
              have hdl := HD9.out.kept HM.out (fun _ _ e => e)
              have HNA := Lib.hid (names_any hdl)
              have HWF9 := Lib.hid hdl.wf
              have HDL := Lib.hid hdl
              have hn9 : (namesOf (st.crash ks).files).length = st.files.length := by
                unfold namesOf
                rw [List.length_map]
                exact HCL.out
              have HN9 := Lib.hid hn9
              have HGA : Hid (goneF (st.crash ks).files [] = 0) := gone_again (crash_safe HWF.out.safe ks)
              have hg := HG.out
              clear htk hdl hn9 hil
              generalize goneF st.files ks = g at *
              generalize total (crashF st.files ks) = t1 at *
              have ht0 : g + t1 ≤ 1099511627776 := by omega
              have ht1 : (t1 : Int) ≤ (g : Int) + (t1 : Int) := by omega
              rw [← hg]
              have HBW := Lib.hid (HB9.out.trans (HM.out.below HB9.out.size (fun _ e => e.elim)))
              clear hg HG htot0 hgle
              have hgeq : ((g : Int) == ((g + t1 : Nat) : Int) - (t1 : Int)) = true := by simp
              have hgeq2 : ((g : Int) == (g : Int) + (t1 : Int) - (t1 : Int)) = true := by simp
              go_wp2_with fail
              refine HNA.out.mono ?_
              rintro e w11 ⟨vn, rfl, hvn, hb11⟩
              obtain ⟨pn2, cn2, rfl, -⟩ := StrsAt.ofNew hvn (fun x hx => by
                obtain ⟨f, hf, rfl⟩ := List.mem_map.1 hx
                have := HWF9.out.names f hf
                unfold maxLen; omega)
              rw [HN9.out]
              have HD11 := HDL.out.kept (Mod.ofBelow hb11 Nil) (fun _ _ e => e)
              have HB11 := Lib.hid (HBW.out.trans (hb11.mono HBW.out.size))
              have HLS : Hid (∀ k, Plus SD wl w9 k → w.heap.size ≤ k) := fun k hk => by
                rcases hk with hk | hk
                · exact HLD.out k hk
                · exact Nat.le_trans HBL.out.size hk.1
              have HCR2 := Lib.hid (crash_any HD11 (.slice none 0 0) [] (intsAt_nil w11) (fun q n c e hn => by cases e))
              clear hvn hb11 HD11
              go_wp2_with fail
              refine HCR2.out.mono ?_
              rintro e w12 ⟨rfl, hm12, -⟩
              rw [HGA.out]
              have HB12 := Lib.hid (HB11.out.trans (hm12.below HB11.out.size HLS.out))
              clear hm12
              go_wp2_with fail
              go_ret
              exact ⟨rfl, HB12.out⟩

end Go.Proofs.YtglkonhhknaomaaDoor
