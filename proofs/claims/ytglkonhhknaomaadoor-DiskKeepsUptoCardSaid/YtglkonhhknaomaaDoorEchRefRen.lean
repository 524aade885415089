/- The walk of the document's disk's Rename. -/
import Derived.Test.YtglkonhhknaomaaDoorEchRefSync
namespace Go.Proofs.YtglkonhhknaomaaDoor
open Go.RowKit Go.Maps

section
variable {w : World} {S : Nat → Prop} {r : Nat} {lv : Value} {c : Int} {st : DSt} {fs : List RefR}

theorem RefAt.plus2 {a b c' : World} (h : RefAt c' (Plus (Plus S a b) b c') r lv c st fs) (hm : a.heap.size ≤ b.heap.size) (hn : b.heap.size ≤ c'.heap.size) : RefAt c' (Plus S a c') r lv c st fs :=
  h.bigger (fun _ hk => plus_plus hm hn hk) (fun k hk => hk.elim (fun e => h.inS k (.inl (.inl e))) (fun e => e.2))

theorem findF_map_none {fs : List RefR} {s : List UInt8} (h : findF (fs.map RefR.abs) s = none) : ∀ g ∈ fs, g.name ≠ s := fun g hg e => by
  unfold findF at h
  rw [List.find?_eq_none] at h
  exact h g.abs (List.mem_map.2 ⟨g, hg, rfl⟩) (by simpa [RefR.abs] using e)

set_option maxRecDepth 100000 in
set_option maxHeartbeats 2000000 in
theorem refRename_any (h : RefAt w S r lv c st fs) (s t : List UInt8) (hl : t.length ≤ maxLen) :
    Calls Tryd.prog 21 #[.pointer (some ⟨r, 0, none⟩), .string ⟨s.toArray⟩, .string ⟨t.toArray⟩] w (RefPost w S r (st.rename s t)) := by
  have HST := Lib.hid (refStopped_any h)
  have H := Lib.hid h
  have HL := Lib.hid hl
  clear h hl
  go_enter Tryd.func21, Tryd.ntmps21
  go_wp2_with fail
  refine HST.out.mono ?_
  rintro e w1 ⟨rfl, ⟨c', hd⟩, hm, hsz⟩
  clear HST
  cases hh : st.halts with
  | true =>
    have e1 : Hid (st.rename s t = (32, st.tick)) := by show _ = _; rw [DSt.tick_halted hh]; simp [DSt.rename, hh]
    have HD := Lib.hid hd
    clear hd
    go_wp2_with fail
    go_ret
    exact ⟨by rw [e1.out]; rfl, hm, _, _, _, by rw [e1.out]; exact HD.out.plusSelf⟩
  | false =>
    have HD := Lib.hid hd
    have HH := Lib.hid hh
    have HF := Lib.hid (find_any hd s)
    have HM := Lib.hid hm
    rcases hd.cases s with ⟨hf, hi⟩ | ⟨a, ha, hi, hnm, hf⟩
    · have e1 : Hid (st.rename s t = (30, st.tick)) := DSt.rename_none hh (.inl hf)
      rw [hi] at HF
      clear hd hf hi hh hm
      go_wp2_with fail
      refine HF.out.mono ?_
      rintro e w2 ⟨rfl, rfl⟩
      go_wp2_with fail
      go_ret
      exact ⟨by rw [e1.out]; rfl, HM.out, _, _, _, by rw [e1.out]; exact HD.out.plusSelf⟩
    · rw [hi] at HF
      have HNO := Lib.hid (refName_any t HL.out w1)
      cases hn : nameOk t with
      | false =>
        have e1 : Hid (st.rename s t = (30, st.tick)) := DSt.rename_none hh (.inr hn)
        rw [hn] at HNO
        clear hd hf hi hh hm hn hnm
        go_wp2_with fail
        refine HF.out.mono ?_
        rintro e w2 ⟨rfl, rfl⟩
        go_wp2_with fail
        refine HNO.out.mono ?_
        rintro e w2 ⟨rfl, rfl⟩
        go_wp2_with fail
        go_ret
        exact ⟨by rw [e1.out]; rfl, HM.out, _, _, _, by rw [e1.out]; exact HD.out.plusSelf⟩
      | true =>
        have hf' : findF st.files s = some fs[a].abs := hf
        have e1 : Hid (st.rename s t = (0, { st.tick with files := insF { fs[a].abs with name := t } (delF (delF st.tick.files s) t) })) := DSt.rename_some hh hf' hn
        have hwf := H.out.wf.tick.rename (a := s) (b := t) hf' hn
        have HWF := Lib.hid hwf
        have HNM := Lib.hid hnm
        rw [hn] at HNO
        clear hd hf hi hh hm hn hnm hf' hwf
        go_wp2_with fail
        refine HF.out.mono ?_
        rintro e w2 ⟨rfl, rfl⟩
        go_wp2_with fail
        refine HNO.out.mono ?_
        rintro e w2 ⟨rfl, rfl⟩
        go_wp2_with fail
        refine HF.out.mono ?_
        rintro e w2 ⟨rfl, rfl⟩
        go_wp2_with fail
        refine (refTake_any HD.out a ha).mono ?_
        rintro e w2 ⟨rfl, hm2, hr2, hb2, lv2, hd2⟩
        obtain ⟨va, vn, vc, hv⟩ := hb2.slice
        unfold RefR.val strV
        rw [hv]
        obtain ⟨w3, hw3⟩ : ∃ w3, w2.alloc (.cells #[.string ⟨t.toArray⟩, .slice va vn vc, .int .i64 (fs[a].safe : Int)] 75) = w3 := ⟨_, rfl⟩
        have hbx3 : w3.heap[w2.heap.size]? = some (.cells #[.string ⟨t.toArray⟩, .slice va vn vc, .int .i64 (fs[a].safe : Int)] 75 (0, 0)) := by rw [← hw3]; exact blk_new w2 _
        have hm3 : Mod Nil w2 w3 := by rw [← hw3]; exact (Mod.refl Nil w2).alloc _
        have hd3 := hd2.kept hm3 (fun _ _ e => e)
        have hb3 := hb2.kept hm3 (fun _ _ e => e)
        rw [hv] at hb3
        have z0 : w3.cell? ⟨w2.heap.size, 0, none⟩ = some (.string ⟨t.toArray⟩) := by rw [blk_cell hbx3]; rfl
        have z1 : w3.cell? ⟨w2.heap.size, 1, none⟩ = some (.slice va vn vc) := by rw [blk_cell hbx3]; rfl
        have z2 : w3.cell? ⟨w2.heap.size, 2, none⟩ = some (.int .i64 (fs[a].safe : Int)) := by rw [blk_cell hbx3]; rfl
        have HF3 := Lib.hid (find_any hd3 t)
        have hap : ∀ k, (Value.slice va vn vc).ownBlock = some k → k ≠ r ∧ (Plus S w1 w2) k ∧ ∀ g ∈ fs.take a ++ fs.drop (a + 1), g.v.ownBlock ≠ some k := fun k e => by
          rw [← hv] at e
          have h1 := HD.out.apart _ (List.getElem_mem ha) k e
          refine ⟨h1.1, .inl (HD.out.own _ (List.getElem_mem ha) k e), fun g hg e2 => ?_⟩
          have hp := List.pairwise_iff_getElem.1 HD.out.pair
          rcases List.mem_append.1 hg with hg | hg
          · obtain ⟨i, hi, rfl⟩ := List.getElem_of_mem hg
            have hi' : i < a := by rw [List.length_take] at hi; omega
            rw [List.getElem_take] at e2
            exact hp i a (by omega) ha hi' k e2 e
          · obtain ⟨i, hi, rfl⟩ := List.getElem_of_mem hg
            rw [List.length_drop] at hi
            rw [List.getElem_drop] at e2
            exact hp a (a + 1 + i) ha (by omega) (by omega) k e e2
        have HD3 := Lib.hid hd3
        have HB3 := Lib.hid hb3
        have HAP := Lib.hid hap
        have HM2 := Lib.hid hm2
        have HM3 := Lib.hid hm3
        have HBX := Lib.hid hbx3
        rcases hd3.cases t with ⟨hf3, hi3⟩ | ⟨b, hb, hi3, hnm3, hf3⟩
        · rw [hi3] at HF3
          have HN3 := Lib.hid hf3
          clear hm2 hr2 hb2 hd2 hbx3 hm3 hd3 hb3 hap hf3 hi3 hv
          subst hw3
          go_wp2_with fail
          refine HF3.out.mono ?_
          rintro e w4 ⟨rfl, rfl⟩
          go_wp2_with fail
          have hdel : delF (delF st.tick.files s) t = delF st.tick.files fs[a].name := by rw [HNM.out]; exact delF_none (by rw [← HNM.out]; exact HN3.out)
          have hadd := refAdd_any HD3.out ⟨t, .slice va vn vc, fs[a].data, fs[a].safe⟩ (findF_map_none (by rw [← HD3.out.abs]; exact HN3.out)) (by have := HWF.out; rw [hdel] at this; exact this) HB3.out HAP.out
          refine hadd.mono ?_
          rintro e w5 ⟨rfl, hm5, lv5, fs5, hd5⟩
          have HM5 := Lib.hid hm5
          have HD5 := Lib.hid hd5
          have HDEL := Lib.hid hdel
          clear hadd hm5 hd5 hdel
          go_wp2_with fail
          go_ret
          have hs1 := HM.out.size
          have hs2 := HM2.out.size
          have hs3 := HM3.out.size
          have hs5 := HM5.out.size
          have hd5 := HD5.out
          refine ⟨by rw [e1.out]; rfl, ((HM.out.trans HM2.out (fun _ e => .inl e)).trans HM3.out (fun _ e => e.elim)).trans HM5.out (fun i hi => hi.elim .inl (fun e => .inr (Nat.le_trans hs1 e.1))), lv5, c', fs5, ?_⟩
          rw [e1.out, HDEL.out]
          refine hd5.bigger (fun k hk => ?_) (fun k hk => ?_)
          · rcases hk with (hk | hk) | hk
            · exact .inl hk
            · exact .inr ⟨by omega, by omega⟩
            · exact .inr ⟨by omega, hk.2⟩
          · rcases hk with hk | hk
            · exact hd5.inS k (.inl (.inl hk))
            · exact hk.2
        · rw [hi3] at HF3
          have HN3 := Lib.hid hnm3
          have hrw : r < w1.heap.size := HD.out.inS r HD.out.ownR
          have hs2 := HM2.out.size
          have hr3 : w2.heap.size ≠ r := by omega
          clear hm2 hr2 hb2 hd2 hbx3 hm3 hd3 hb3 hap hf3 hi3 hv hnm3
          subst hw3
          go_wp2_with fail
          refine HF3.out.mono ?_
          rintro e w4 ⟨rfl, rfl⟩
          go_wp2_with fail
          refine HF3.out.mono ?_
          rintro e w4 ⟨rfl, rfl⟩
          go_wp2_with fail
          refine (refTake_any HD3.out b hb).mono ?_
          rintro e w4 ⟨rfl, hm4, hr4, -, lv4, hd4⟩
          have hbx4 := blk_mod hr4 HBX.out hr3
          have y0 : w4.cell? ⟨w2.heap.size, 0, none⟩ = some (.string ⟨t.toArray⟩) := by rw [blk_cell hbx4]; rfl
          have y1 : w4.cell? ⟨w2.heap.size, 1, none⟩ = some (.slice va vn vc) := by rw [blk_cell hbx4]; rfl
          have y2 : w4.cell? ⟨w2.heap.size, 2, none⟩ = some (.int .i64 (fs[a].safe : Int)) := by rw [blk_cell hbx4]; rfl
          have HB4 := Lib.hid (HB3.out.kept hr4 (fun k e => (HAP.out k e).1))
          have HD4 := Lib.hid hd4
          have HM4 := Lib.hid hm4
          clear hm4 hr4 hd4 hbx4 z0 z1 z2
          go_wp2_with fail
          have hdel : delF (delF st.tick.files s) t = delF (delF st.tick.files fs[a].name) (fs.take a ++ fs.drop (a + 1))[b].name := by rw [HNM.out, HN3.out]
          have hno : findF (delF (delF st.tick.files s) t) t = none := by
            unfold findF
            rw [List.find?_eq_none]
            intro x hx
            unfold delF at hx
            have := (List.mem_filter.1 hx).2
            simpa using this
          have hadd := refAdd_any HD4.out ⟨t, .slice va vn vc, fs[a].data, fs[a].safe⟩ (findF_map_none (by rw [← HD4.out.abs]; exact hdel ▸ hno)) (by have := HWF.out; rw [hdel] at this; exact this) HB4.out
            (fun k e => ⟨(HAP.out k e).1, .inl (HAP.out k e).2.1, fun g hg => (HAP.out k e).2.2 g (mem_del hg)⟩)
          refine hadd.mono ?_
          rintro e w5 ⟨rfl, hm5, lv5, fs5, hd5⟩
          have HM5 := Lib.hid hm5
          have HD5 := Lib.hid hd5
          have HDEL := Lib.hid hdel
          clear hadd hm5 hd5 hdel hno
          go_wp2_with fail
          go_ret
          have hs1 := HM.out.size
          have hs3 := HM3.out.size
          have hs4 := HM4.out.size
          have hs5 := HM5.out.size
          have hd5 := HD5.out
          refine ⟨by rw [e1.out]; rfl, (((HM.out.trans HM2.out (fun _ e => .inl e)).trans HM3.out (fun _ e => e.elim)).trans HM4.out (fun i hi => hi.elim .inl (fun e => .inr (Nat.le_trans hs1 e.1)))).trans HM5.out (fun i hi => ?_), lv5, c', fs5, ?_⟩
          · rcases hi with (hi | hi) | hi
            · exact .inl hi
            · exact .inr (by omega)
            · exact .inr (by omega)
          rw [e1.out, HDEL.out]
          refine hd5.bigger (fun k hk => ?_) (fun k hk => ?_)
          · rcases hk with ((hk | hk) | hk) | hk
            · exact .inl hk
            · exact .inr ⟨by omega, by omega⟩
            · exact .inr ⟨by omega, by omega⟩
            · exact .inr ⟨by omega, hk.2⟩
          · rcases hk with hk | hk
            · exact hd5.inS k (.inl (.inl (.inl hk)))
            · exact hk.2

end
end Go.Proofs.YtglkonhhknaomaaDoor
