/- The walk of disk's Rename. -/
import Derived.Test.YtglkonhhknaomaaDoorEchAppend2
namespace Go.Proofs.YtglkonhhknaomaaDoor
open Go.RowKit Go.Maps Go.WideMaps

section
variable {w : World} {S : Nat → Prop} {d mb : Nat} {st : DSt} {fs : List FileR}

set_option maxRecDepth 100000 in
set_option maxHeartbeats 1000000 in
theorem rename_any (h : DiskAt w S d mb st fs) (a b : ByteArray) (ha : a.size ≤ maxLen) (hb : b.size ≤ maxLen) :
    Calls Tryd.prog 20 #[.pointer (some ⟨d, 0, none⟩), .string a, .string b] w (DiskPost w S d mb (st.rename a.data.toList b.data.toList)) := by
  have HST := Lib.hid (stopped_any h)
  have HA := Lib.hid ha
  have HB := Lib.hid hb
  cases hh : st.halts with
  | true =>
    have e1 : Hid (st.rename a.data.toList b.data.toList = (32, st)) := by show _ = _; simp [DSt.rename, hh]
    have HH := Lib.hid hh
    clear h ha hb hh
    go_enter Tryd.func20, Tryd.ntmps20
    go_wp2_with fail
    refine HST.out.mono ?_
    rintro e w1 ⟨rfl, hd, hm, -⟩
    have HD := Lib.hid hd
    clear hd HST
    rw [HH.out]
    go_wp2_with fail
    go_ret
    exact ⟨by rw [e1.out]; rfl, hm, fs, by rw [e1.out]; have := HD.out; rw [DSt.tick_halted HH.out] at this; exact plus_self this⟩
  | false =>
    have HH := Lib.hid hh
    cases hf : findR fs a.data.toList with
    | none =>
      have e1 : Hid (st.rename a.data.toList b.data.toList = (30, st.tick)) := DSt.rename_none hh (.inl (by rw [h.abs, findR_abs, hf]; rfl))
      have HF := Lib.hid hf
      clear h ha hb hh hf
      go_enter Tryd.func20, Tryd.ntmps20
      go_wp2_with fail
      refine HST.out.mono ?_
      rintro e w1 ⟨rfl, hd, hm, -⟩
      obtain ⟨-, c1, -, -⟩ := hd.cells
      have hl := hd.lookup a HA.out
      rw [show lookV fs a.data.toList = .pointer none from by unfold lookV; rw [HF.out]] at hl
      have HD := Lib.hid hd
      clear hd HST
      rw [HH.out]
      go_wp2_with fail
      go_ret
      exact ⟨by rw [e1.out]; rfl, hm, fs, by rw [e1.out]; exact plus_self HD.out⟩
    | some f =>
      have hff : findF st.files a.data.toList = some f.abs := by rw [h.abs, findR_abs, hf]; rfl
      have HF := Lib.hid hf
      have HFF := Lib.hid hff
      have HWF := Lib.hid h.wf
      cases hn : nameOk b.data.toList with
      | false =>
        have e1 : Hid (st.rename a.data.toList b.data.toList = (30, st.tick)) := DSt.rename_none hh (.inr hn)
        have HN := Lib.hid hn
        clear h ha hb hh hf hff hn
        go_enter Tryd.func20, Tryd.ntmps20
        go_wp2_with fail
        refine HST.out.mono ?_
        rintro e w1 ⟨rfl, hd, hm, -⟩
        obtain ⟨-, c1, -, -⟩ := hd.cells
        have hl := hd.lookup a HA.out
        rw [show lookV fs a.data.toList = .pointer (some ⟨f.blk, 0, none⟩) from by unfold lookV; rw [HF.out]] at hl
        have HD := Lib.hid hd
        clear hd HST
        rw [HH.out]
        go_wp2_with fail
        refine (name_any _ _ _ (strsAt_one w1 b HB.out _)).mono ?_
        rintro e w2 ⟨rfl, hb2⟩
        rw [show [b.data.toList].all nameOk = false from by simp [HN.out]]
        have hm2 : Mod Nil w1 w2 := (((Mod.refl Nil w1).alloc _).thenBelow hb2)
        clear hb2
        go_wp2_with fail
        go_ret
        exact ⟨by rw [e1.out]; rfl, hm.trans hm2 (fun k hk => hk.elim), fs, by rw [e1.out]; exact plus_self (HD.out.kept hm2 (fun _ _ e => e))⟩
      | true =>
        have e1 : Hid (st.rename a.data.toList b.data.toList = (0, { st.tick with files := insF { f.abs with name := b.data.toList } (delF (delF st.tick.files a.data.toList) b.data.toList) })) := DSt.rename_some hh hff hn
        have HW2 : Hid (DSt.wf { st.tick with files := insF { f.abs with name := b.data.toList } (delF (delF st.tick.files a.data.toList) b.data.toList) }) := h.wf.tick.rename hff hn
        have HN := Lib.hid hn
        have HFM := Lib.hid (List.mem_of_find?_eq_some hf)
        clear h ha hb hh hf hff hn
        go_enter Tryd.func20, Tryd.ntmps20
        go_wp2_with fail
        refine HST.out.mono ?_
        rintro e w1 ⟨rfl, hd, hm, -⟩
        obtain ⟨-, c1, -, -⟩ := hd.cells
        have hl := hd.lookup a HA.out
        rw [show lookV fs a.data.toList = .pointer (some ⟨f.blk, 0, none⟩) from by unfold lookV; rw [HF.out]] at hl
        have HD := Lib.hid hd
        clear hd HST
        rw [HH.out]
        go_wp2_with fail
        refine (name_any _ _ _ (strsAt_one w1 b HB.out _)).mono ?_
        rintro e w2 ⟨rfl, hb2⟩
        rw [show [b.data.toList].all nameOk = true from by simp [HN.out]]
        have hm2 : Mod Nil w1 w2 := (((Mod.refl Nil w1).alloc _).thenBelow hb2)
        have hd2 := HD.out.kept hm2 (fun _ _ e => e)
        obtain ⟨-, c2, -, -⟩ := hd2.cells
        have HD2 := Lib.hid hd2
        clear hb2 hd2 hl c1 HD
        go_wp2_with (at_delete; refine wpList_delete_own _ rfl _ _ 50 9 rfl 61 keyed9 Tryd.underlying50 ptrR mb fs.length (Dof fs) rfl HD2.out.map _ _ rfl (key_string a HA.out) ?_; intro w3 hown3 ht3; have hm3 : Mod (fun k => k = mb) w2 w3 := (Mod.refl _ w2).grown ht3.grown (fun k e => by cases e; exact .inl rfl); have hd3 := HD2.out.del a.data.toList hm3 hown3; obtain ⟨-, c3, -, -⟩ := hd3.cells; obtain ⟨w4, hup, hown4, hg4⟩ := hd3.map.update keyed9 Tryd.underlying50 (by have := HWF.out.count; have := HD2.out.abs; have := List.length_filter_le (fun g : FileR => !(g.name == a.data.toList)) fs; have e : st.tick.files.length = fs.length := (by rw [HD2.out.abs, List.length_map]); rw [DSt.tick_files] at e; unfold delR maxLen; omega) (key_string b HB.out) (val := .pointer (some ⟨f.blk, 0, none⟩)) (d := .lit (.int .u64 f.blk)) (ps := []) rfl; have F1 := Lib.hid hm3; have F2 := Lib.hid hd3; have F3 := Lib.hid hown4; have F4 := Lib.hid hg4; clear hown3 ht3 hm3 hd3 hown4 hg4 c2)
        go_ret
        have hm4 : Mod (fun k => k = mb) w3 w4 := (Mod.refl _ w3).grown F4.out (fun k e => by cases e; exact .inl rfl)
        have hap := HD2.out.apart
        have hfile := ((HD2.out.files f HFM.out).kept F1.out (fun k hk e => (hap.out f HFM.out k hk).2 e)).kept hm4 (fun k hk e => (hap.out f HFM.out k hk).2 e)
        obtain ⟨g1, g2⟩ := F2.out.put hm4 (f := { f with name := b.data.toList }) (fun k _ e => .inl e) F3.out ⟨hfile.1, hfile.2⟩ (hap.self f HFM.out)
          (fun k hk => .inl ⟨HD2.out.own f HFM.out k hk, (hap.out f HFM.out k hk).1, (hap.out f HFM.out k hk).2, fun g hg _ hk2 => by
            obtain ⟨hg1, hg2⟩ := List.mem_filter.1 hg
            have hne : g ≠ f := fun e => by
              subst e
              have := (findR_split HF.out).1
              simp [this] at hg2
            have hp := hap.pair
            rcases List.append_of_mem HFM.out with ⟨p1, p2, hfs⟩
            rw [hfs, List.pairwise_append] at hp
            obtain ⟨_, q2, q3⟩ := hp
            rw [hfs] at hg1
            rcases List.mem_append.1 hg1 with hg1 | hg1
            · exact q3 g hg1 f (by simp) k hk2 hk
            · rcases List.mem_cons.1 hg1 with e | hg1
              · exact hne e
              · exact (List.pairwise_cons.1 q2).1 g hg1 k hk hk2⟩) HW2.out
        have hmA : Mod S w w3 := ((hm.trans hm2 (fun k hk => hk.elim)).trans (F1.out.mono (S' := S) (fun k _ e => by rw [e]; exact HD2.out.ownM)) (fun k hk => .inl hk))
        exact ⟨by rw [e1.out]; rfl, hmA.trans g2 (fun i e => .inl e), _, by rw [e1.out]; exact g1.plus hmA⟩

end
end Go.Proofs.YtglkonhhknaomaaDoor
