/- The walk of the document's disk's Crash. -/
import Derived.Test.YtglkonhhknaomaaDoorEchRefRem
import Derived.Test.YtglkonhhknaomaaDoorEchCrash
namespace Go.Proofs.YtglkonhhknaomaaDoor
open Go.RowKit Go.Maps

section
variable {w : World} {S : Nat → Prop} {r : Nat} {lv : Value} {c : Int} {st : DSt} {fs : List RefR}

theorem RefAt.setEnd (h : RefAt w S r lv c st fs) : RefAt (w.setCell ⟨r, 2, none⟩ (.bool false)) S r lv c { st with calls := -1 } fs ∧ Mod S w (w.setCell ⟨r, 2, none⟩ (.bool false)) := by
  have hm : Mod (fun k => k = r) w (w.setCell ⟨r, 2, none⟩ (.bool false)) := (Mod.refl (fun k => k = r) w).setCell (p := ⟨r, 2, none⟩) (.inl rfl) _
  refine ⟨?_, hm.mono fun k _ e => by subst e; exact h.ownR⟩
  exact {
    blk := by rw [blk_set h.blk]; rfl
    calls := fun h0 => absurd h0 (by simp)
    row := by
      obtain ⟨hl, hr⟩ := h.row
      refine ⟨hl, ?_⟩
      rcases hr with e | ⟨g, cap, cur, e, hb, hg, rest⟩
      · exact .inl e
      · exact .inr ⟨g, cap, cur, e, hb, blk_mod hm hg (fun e' => h.neR (by rw [e]; exact congrArg some e')), rest⟩
    bytes := fun f hf => (h.bytes f hf).kept hm (fun k hk => (h.apart f hf k hk).1)
    neR := h.neR
    apart := h.apart
    pair := h.pair
    ownR := h.ownR
    ownL := h.ownL
    own := h.own
    inS := fun k hk => Nat.lt_of_lt_of_le (h.inS k hk) hm.size
    abs := h.abs
    wf := ⟨h.wf.room, h.wf.fits, h.wf.small, by simp, by simp, h.wf.sorted, h.wf.safe, h.wf.count, h.wf.names⟩ }

def RefCrashPost (w : World) (S : Nat → Prop) (r : Nat) (st : DSt) (ks : List Int) (e : Ending) (w' : World) : Prop :=
  e = .returned (.int .i64 (goneF st.files ks : Int)) ∧ Mod S w w' ∧ ∃ lv c fs, RefAt w' (Plus S w w') r lv c (st.crash ks) fs

/-- One file of a crash. -/
theorem refCrash_step {wr W : World} {ks : List Int} {k : Nat} {fs' : List RefR} (h : RefAt wr S r lv c { st with calls := -1, files := midF st.files ks k } fs') (hk : k < fs'.length) (hk2 : k < st.files.length) (hf : fs'[k].abs = st.files[k]) {g cap : Nat} (hlv : lv = .slice (some ⟨g, 0, none⟩) fs'.length cap)
    {va : Option Addr} {vc s' : Nat} (hv : fs'[k].v = .slice va fs'[k].data.length vc) (hs : s' ≤ fs'[k].data.length) (hst : stays fs'[k].abs ks[k]? = s') (hwf0 : st.wf)
    (hW : W = (wr.setCell ⟨g, k * 3 + 1, none⟩ (.slice va s' vc)).setCell ⟨g, k * 3 + 2, none⟩ (.int .i64 (s' : Int))) :
    ∃ fs2, RefAt W S r lv c { st with calls := -1, files := midF st.files ks (k + 1) } fs2 ∧ Mod S wr W := by
  have ho : OwnBytes wr (.slice va s' vc) (fs'[k].data.take s') := own_takeV (by have := h.bytes _ (List.getElem_mem hk); rw [hv] at this; exact this) s' hs
  have hstep := midF_step hwf0.names_ne ks k hk2
  have hname : fs'[k].name = st.files[k].name := by rw [← hf]; rfl
  rw [← hname] at hstep
  have hwf := DSt.wf.mid (st := { st with calls := -1 }) ⟨hwf0.room, hwf0.fits, hwf0.small, by simp, by simp, hwf0.sorted, hwf0.safe, hwf0.count, hwf0.names⟩ ks (k + 1) (show k + 1 ≤ st.files.length by omega)
  have hwf' : DSt.wf { st with calls := -1, files := chgF (midF st.files ks k) fs'[k].name fun f => cr f ks[k]? } := by rw [← hstep]; exact hwf
  obtain ⟨q1, q2⟩ := h.setBoth hk hlv (.slice va s' vc) (fs'[k].data.take s') s' ho (fun i e => by rw [hv]; cases va <;> exact e) (F := fun f => cr f ks[k]?) (by unfold cr; rw [hst]; rfl) hwf'
  rw [hW]
  refine ⟨fs'.set k { fs'[k] with v := .slice va s' vc, data := fs'[k].data.take s', safe := s' }, ?_, q2⟩
  rw [hstep]
  exact q1

set_option maxRecDepth 100000 in
set_option maxHeartbeats 4000000 in
theorem refCrash_any (h : RefAt w S r lv c st fs) (v : Value) (ks : List Int) (hs : ∀ w', Mod S w w' → IntsAt w' v ks) :
    Calls Tryd.prog 26 #[.pointer (some ⟨r, 0, none⟩), v] w (RefCrashPost w S r st ks) := by
  obtain ⟨p, cap, rfl, hl, hx, -⟩ := hs w (Mod.refl S w)
  have HS := Lib.hid hs
  have HX := Lib.hid hx
  unfold maxLen at hl
  obtain ⟨-, -, c2, -, hfz⟩ := h.cells
  have hfz2 := hfz 2
  obtain ⟨q1, q2⟩ := h.setEnd
  have HWF := Lib.hid h.wf
  have hcnt : st.files.length ≤ 4096 := h.wf.count
  have HD := Lib.hid q1
  have HM := Lib.hid q2
  clear h hs hx hfz q1 q2
  go_enter Tryd.func26, Tryd.ntmps26
  go_wp2_with fail
  go_loopw [5, 6] (fun gn i wl => ∃ k : Nat, k ≤ st.files.length ∧ i = .int .i64 (k : Int) ∧ gn = .int .i64 (goneF (st.files.take k) ks : Int) ∧ Mod S w wl ∧ Hid (∃ fs', RefAt wl S r lv c { st with calls := -1, files := midF st.files ks k } fs')) (fun _ i _ => st.files.length - (intOf i).toNat)
  case atStart =>
    refine ⟨0, Nat.zero_le _, rfl, by simp [goneF], HM.out, ?_⟩
    refine Exists.intro fs ?_
    rw [midF_zero]
    exact HD.out
  case round =>
    obtain ⟨k, hk, rfl, rfl, hml, hdl⟩ := hrel
    obtain ⟨fs', hd'⟩ := hdl.out
    have hlen : fs'.length = st.files.length := by
      have h1 := hd'.len
      have h2 := congrArg List.length (midF_names st.files ks k hk)
      simp only [List.length_map] at h2
      have h3 : (midF st.files ks k).length = fs'.length := h1
      omega
    obtain ⟨-, d1, -, -, -⟩ := hd'.cells
    have hgl := goneF_le (st.files.take k) ks
    have htl := total_take_le st.files k
    have hsm := HWF.out.small
    have hgk : goneF (st.files.take k) ks ≤ 1099511627776 := by omega
    by_cases hlt : k < st.files.length
    · have hkl : k < fs'.length := by omega
      obtain ⟨g, cap2, hlv, hcap, hglt, hgr, k0, k1, k2, fz⟩ := hd'.slice hkl
      rw [hlv, hlen] at d1
      rw [hlen] at hcap
      have fz1 := fz (k * 3 + 1)
      have fz2 := fz (k * 3 + 2)
      have hfa : fs'[k].abs = st.files[k] := by
        have h1 := hd'.get k hkl
        have h2 := midF_get st.files ks k k hk
        rw [if_neg (by omega)] at h2
        rw [show (midF st.files ks k)[k]? = some fs'[k].abs from h1, List.getElem?_eq_getElem hlt] at h2
        exact Option.some.inj h2
      have hsafe := HWF.out.safe _ (List.getElem_mem hlt)
      rw [← hfa] at hsafe
      have hsafe' : fs'[k].safe ≤ fs'[k].data.length := hsafe
      have HB := hd'.bytes fs'[k] (List.getElem_mem hkl)
      obtain ⟨va, vn, vc, hv⟩ := HB.slice
      have hvn : vn = fs'[k].data.length ∧ fs'[k].data.length ≤ vc := by
        rcases HB.form with ⟨e, hz⟩ | ⟨g, cap, cur, e, -, h5, -⟩
        · rw [hv] at e; cases e; rw [hz]; exact ⟨rfl, Nat.le_refl _⟩
        · rw [hv] at e; cases e; exact ⟨rfl, h5⟩
      obtain ⟨rfl, hvc⟩ := hvn
      rw [hv] at k1
      have hfl : fs'[k].data.length ≤ 1099511627776 := by
        have h1 := total_mem (List.getElem_mem hlt)
        rw [← hfa] at h1
        have : fs'[k].abs.data.length = fs'[k].data.length := rfl
        omega
      have hgt := goneF_take st.files ks k hlt
      have G0 := Lib.hid hd'
      have G1 := Lib.hid hfa
      have G2 := Lib.hid hlv
      have G3 := Lib.hid hv
      have G4 := Lib.hid hgt
      have hsc : fs'[k].safe ≤ vc := by omega
      clear hd' hdl hgl htl hsm hfa hsafe HB hv hgt hlv fz k0
      by_cases hik : k < ks.length
      · obtain ⟨p', cap', ep, -, -, hkc⟩ := HS.out _ hml
        cases ep
        obtain ⟨b2, off2, rfl, hkc⟩ := hkc k hik
        have hkb := HX.out ks[k] (List.getElem_mem hik)
        have hst : Hid (stays fs'[k].abs ks[k]? = fs'[k].safe + min ks[k].toNat (fs'[k].data.length - fs'[k].safe)) := by show _ = _; rw [List.getElem?_eq_getElem hik]; rfl
        generalize ks[k] = x at *
        have hkb1 := hkb.1
        have hkb2 := hkb.2
        clear hkb
        by_cases hx0 : 0 < x
        · go_wp2_with fail
          go_region
          all_goals (go_wp2_with fail; go_region)
          all_goals (go_wp2_with fail)
          go_roundw
          case rel =>
            have ev : (fs'[k].safe : Int) + min x ((fs'[k].data.length : Int) - (fs'[k].safe : Int)) = ((fs'[k].safe + min x.toNat (fs'[k].data.length - fs'[k].safe) : Nat) : Int) := by omega
            rw [ev, Int.toNat_natCast]
            obtain ⟨fs2, q1, q2⟩ := refCrash_step G0.out hkl hlt G1.out G2.out G3.out (s' := fs'[k].safe + min x.toNat (fs'[k].data.length - fs'[k].safe)) (by have := hsafe'; omega) hst.out HWF.out rfl
            refine ⟨k + 1, by omega, by go_num, congrArg (Value.int .i64) (by have := G4.out; rw [G1.out.symm, hst.out] at this; have : fs'[k].abs.data.length = fs'[k].data.length := rfl; omega), hml.trans q2.drew.drew (fun i e => .inl e), ?_⟩
            refine Exists.intro fs2 ?_
            exact q1.kept ((Mod.refl Nil _).drew.drew) (fun _ _ e => e)
          case measure => simp [intOf]; omega
        · have hst0 : Hid (stays fs'[k].abs ks[k]? = fs'[k].safe) := by show _ = _; rw [hst.out]; omega
          clear hst
          have hst := hst0
          clear hst0
          go_wp2_with fail
          go_region
          all_goals (go_wp2_with fail)
          go_roundw
          case rel =>
            obtain ⟨fs2, q1, q2⟩ := refCrash_step G0.out hkl hlt G1.out G2.out G3.out (s' := fs'[k].safe) (by have := hsafe'; omega) hst.out HWF.out rfl
            refine ⟨k + 1, by omega, by go_num, congrArg (Value.int .i64) (by have := G4.out; rw [G1.out.symm, hst.out] at this; have : fs'[k].abs.data.length = fs'[k].data.length := rfl; omega), hml.trans q2.drew (fun i e => .inl e), ?_⟩
            refine Exists.intro fs2 ?_
            exact q1.kept ((Mod.refl Nil _).drew) (fun _ _ e => e)
          case measure => simp [intOf]; omega
      · have hst : Hid (stays fs'[k].abs ks[k]? = fs'[k].safe) := by show _ = _; rw [List.getElem?_eq_none (by omega)]; rfl
        go_wp2_with fail
        go_region
        all_goals (go_wp2_with fail)
        go_roundw
        case rel =>
          obtain ⟨fs2, q1, q2⟩ := refCrash_step G0.out hkl hlt G1.out G2.out G3.out (s' := fs'[k].safe) (by have := hsafe'; omega) hst.out HWF.out rfl
          refine ⟨k + 1, by omega, by go_num, congrArg (Value.int .i64) (by have := G4.out; rw [G1.out.symm, hst.out] at this; have : fs'[k].abs.data.length = fs'[k].data.length := rfl; omega), hml.trans q2.drew (fun i e => .inl e), ?_⟩
          refine Exists.intro fs2 ?_
          exact q1.kept ((Mod.refl Nil _).drew) (fun _ _ e => e)
        case measure => simp [intOf]; omega
    · have hk' : k = st.files.length := by omega
      have G4 := Lib.hid hdl
      have HK := Lib.hid hk'
      have HLEN := Lib.hid hlen
      clear hdl hk'
      rcases hd'.form with ⟨e, hz⟩ | ⟨g, cap2, cur, e, -, hcap, -⟩
      · rw [e] at d1
        have : st.files.length = 0 := by rw [← hlen, hz]; rfl
        clear hd' hgl htl hsm hlen
        go_wp2_with fail
        go_ret
        obtain ⟨fs', hd'⟩ := G4.out
        rw [HK.out, midF_all] at hd'
        exact ⟨congrArg (fun l => Ending.returned (.int .i64 ((goneF l ks : Nat) : Int))) (by rw [HK.out, List.take_length]), hml, _, _, _, hd'.plusSelf⟩
      · rw [e, hlen] at d1
        clear hd' hgl htl hsm hlen
        go_wp2_with fail
        go_ret
        obtain ⟨fs', hd'⟩ := G4.out
        rw [HK.out, midF_all] at hd'
        exact ⟨congrArg (fun l => Ending.returned (.int .i64 ((goneF l ks : Nat) : Int))) (by rw [HK.out, List.take_length]), hml, _, _, _, hd'.plusSelf⟩

end
end Go.Proofs.YtglkonhhknaomaaDoor
