/- The walk of disk's Sync. -/
import Derived.Test.YtglkonhhknaomaaDoorEchRename
import Derived.BigRegion
namespace Go.Proofs.YtglkonhhknaomaaDoor
open Go.RowKit Go.Maps Go.WideMaps

section
variable {w : World} {S : Nat → Prop} {d mb : Nat} {st : DSt} {fs : List FileR}

theorem plus_plus {a b c : World} {k : Nat} (hm : a.heap.size ≤ b.heap.size) (hn : b.heap.size ≤ c.heap.size) (h : Plus (Plus S a b) b c k) : Plus S a c k := by
  unfold Plus at *
  rcases h with (h | h) | h
  · exact .inl h
  · exact .inr ⟨h.1, by omega⟩
  · exact .inr ⟨by omega, h.2⟩
theorem DiskAt.plus2 {a b c : World} (h : DiskAt c (Plus (Plus S a b) b c) d mb st fs) (hm : a.heap.size ≤ b.heap.size) (hn : b.heap.size ≤ c.heap.size) : DiskAt c (Plus S a c) d mb st fs :=
  { h with ownD := plus_plus hm hn h.ownD, ownM := plus_plus hm hn h.ownM, own := fun f hf k hk => plus_plus hm hn (h.own f hf k hk), inS := fun k hk => hk.elim (fun e => h.inS k (.inl (.inl e))) (fun e => e.2) }
theorem Mod.plus {a b c : World} (h : Mod S a b) (k : Mod (Plus S a b) b c) : Mod S a c := h.trans k (fun _ hi => hi.elim .inl (fun e => .inr e.1))

/-- The second cell of a file's block is written. -/
theorem DiskAt.set1 (h : DiskAt w S d mb st fs) {f : FileR} (hf : f ∈ fs) {safe' : Nat}
    (F : DFile → DFile) (hF : (⟨f.name, f.data, safe'⟩ : DFile) = F f.abs) (hwf : DSt.wf { st with files := chgF st.files f.name F }) :
    ∀ w', w' = w.setCell ⟨f.blk, 1, none⟩ (.int .i64 (safe' : Int)) →
    DiskAt w' (Plus S w w') d mb { st with files := chgF st.files f.name F } (fs.map (updR { f with safe := safe' })) ∧ Mod S w w' := by
  intro w' hw'
  have hm : Mod (fun k => k = f.blk) w w' := by
    rw [hw']
    exact (Mod.refl (fun k => k = f.blk) w).setCell (p := ⟨f.blk, 1, none⟩) (.inl rfl) _
  refine h.change (f' := { f with safe := safe' }) hm hf (fun k _ e => by subst e; simp [FileR.blks]) rfl rfl ⟨?_, ?_⟩ (fun k hk => .inl hk) F hF hwf
  · rw [hw', blk_set (h.files f hf).1 1]
    rfl
  · exact (h.files f hf).2.kept hm (fun k hk e => by subst e; exact h.apart.self f hf hk)

set_option maxRecDepth 100000 in
set_option maxHeartbeats 1000000 in
theorem sync_any (h : DiskAt w S d mb st fs) (v : Value) (ss : List (List UInt8)) (hss : StrsAt w v ss) (hout : ∀ p n c, v = .slice (some p) n c → 0 < n → ¬ S p.block) :
    Calls Tryd.prog 16 #[.pointer (some ⟨d, 0, none⟩), v] w (DiskPost w S d mb (st.sync ss)) := by
  have HST := Lib.hid (stopped_any h)
  obtain ⟨p, cap, rfl, hl, hx, hc⟩ := hss
  have hss0 : StrsAt w (.slice p ss.length cap) ss := ⟨p, cap, rfl, hl, hx, hc⟩
  cases hh : st.halts with
  | true =>
    have e1 : Hid (st.sync ss = (32, st)) := by show _ = _; simp [DSt.sync, hh]
    have HH := Lib.hid hh
    clear h hh hc hx hss0 hl hout
    go_enter Tryd.func16, Tryd.ntmps16
    go_wp2_with fail
    refine HST.out.mono ?_
    rintro e w1 ⟨rfl, hd, hm, -⟩
    have HD := Lib.hid hd
    clear hd HST
    rw [HH.out]
    go_wp2_with fail
    go_ret
    exact ⟨by rw [e1.out]; rfl, hm, fs, by rw [e1.out]; have := HD.out; rw [DSt.tick_halted HH.out] at this; exact plus_self this⟩
  | false =>
    have HH := Lib.hid hh
    have hss1 : ∀ w1, Mod S w w1 → StrsAt w1 (.slice p ss.length cap) ss := fun w1 hm => ⟨p, cap, rfl, hl, hx, fun i hi => by
      obtain ⟨b, off, rfl, hcell⟩ := hc i hi
      exact ⟨b, off, rfl, by rw [hm.cell (p := ⟨b, off + i, none⟩) (World.block_lt_of_cell? w _ hcell) (hout ⟨b, off, none⟩ _ _ rfl (show 0 < ss.length by omega))]; exact hcell⟩⟩
    have H1 := Lib.hid hss1
    have HX := Lib.hid hx
    have HWF := Lib.hid h.wf
    have hl' : ss.length ≤ 9223372036854775807 := hl
    cases ht : there st.files ss with
    | false =>
      have e1 : Hid (st.sync ss = (30, st.tick)) := DSt.sync_none hh ht
      have HT := Lib.hid ht
      clear h hh hc hx hss0 hl hout hss1 ht
      go_enter Tryd.func16, Tryd.ntmps16
      go_wp2_with fail
      refine HST.out.mono ?_
      rintro e w1 ⟨rfl, hd, hm, -⟩
      have HC := Lib.hid (there_any hd _ ss (H1.out w1 hm))
      have HD := Lib.hid hd
      clear hd HST
      rw [HH.out]
      go_wp2_with fail
      refine HC.out.mono ?_
      rintro e w2 ⟨rfl, hb2⟩
      rw [show there st.tick.files ss = false from HT.out]
      have hm2 : Mod Nil w1 w2 := Mod.ofBelow hb2 Nil
      clear hb2 HC
      go_wp2_with fail
      go_ret
      exact ⟨by rw [e1.out]; rfl, hm.trans hm2 (fun k hk => hk.elim), fs, by rw [e1.out]; exact plus_self (HD.out.kept hm2 (fun _ _ e => e))⟩
    | true =>
      have e1 : Hid (st.sync ss = (0, { st.tick with files := syncF st.tick.files ss })) := DSt.sync_some hh ht
      have HT := Lib.hid ht
      clear h hh hc hx hss0 hl hout hss1 ht
      go_enter Tryd.func16, Tryd.ntmps16
      go_wp2_with fail
      refine HST.out.mono ?_
      rintro e w1 ⟨rfl, hd, hm, -⟩
      have HC := Lib.hid (there_any hd _ ss (H1.out w1 hm))
      have HD := Lib.hid hd
      clear hd HST
      rw [HH.out]
      go_wp2_with fail
      refine HC.out.mono ?_
      rintro e w2 ⟨rfl, hb2⟩
      rw [show there st.tick.files ss = true from HT.out]
      have hm2 : Mod S w w2 := hm.trans (Mod.ofBelow hb2 Nil) (fun k hk => hk.elim)
      have hd2 : DiskAt w2 (Plus S w w2) d mb st.tick fs := plus_self (HD.out.kept (Mod.ofBelow hb2 Nil) (fun _ _ e => e))
      have HD2 := Lib.hid hd2
      clear hb2 HC hd2 HD hm
      go_wp2_with fail
      go_loopw [6, 15] (fun _ i wl => ∃ k : Nat, k ≤ ss.length ∧ i = .int .i64 (k : Int) ∧ Mod S w wl ∧ Hid (∃ fs', DiskAt wl (Plus S w wl) d mb { st.tick with files := syncF st.tick.files (ss.take k) } fs')) (fun _ i _ => ss.length - (intOf i).toNat)
      case atStart =>
        refine ⟨0, Nat.zero_le _, rfl, hm2, fs, ?_⟩
        have e : syncF st.tick.files (ss.take 0) = st.tick.files := by rw [List.take_zero, syncF_nil]
        rw [e]
        exact HD2.out
      case round =>
        obtain ⟨k, hk, rfl, hml, hdl⟩ := hrel
        by_cases hlt : k < ss.length
        · obtain ⟨fs', hd'⟩ := hdl.out
          obtain ⟨p', cap', ep, -, -, hc'⟩ := H1.out wr hml
          cases ep
          obtain ⟨b, off, rfl, hcell⟩ := hc' k hlt
          obtain ⟨f0, hf0⟩ := there_get HT.out hlt
          have hff : findF (syncF st.tick.files (ss.take k)) ss[k] = some (if (ss.take k).contains f0.name then { f0 with safe := f0.data.length } else f0) := by
            rw [findF_syncF, DSt.tick_files, hf0]; rfl
          obtain ⟨f, hfm, hfr, hfa⟩ := hd'.file hff
          obtain ⟨-, c1, -, -⟩ := hd'.cells
          obtain ⟨k0, k1, kf⟩ := (hd'.files f hfm).cells
          have kf1 := kf 1
          have hlk := (hd'.kept ((Mod.refl Nil wr).drew) (fun _ _ e => e)).lookup ⟨ss[k].toArray⟩ (HX.out ss[k] (List.getElem_mem hlt))
          rw [show lookV fs' (⟨ss[k].toArray⟩ : ByteArray).data.toList = .pointer (some ⟨f.blk, 0, none⟩) from by unfold lookV; rw [show findR fs' (⟨ss[k].toArray⟩ : ByteArray).data.toList = some f from hfr]] at hlk
          obtain ⟨a5, n5, c5, hfv⟩ := (hd'.files f hfm).2.slice
          have hn5 : n5 = f.data.length := by
            rcases (hd'.files f hfm).2.form with ⟨e, hz⟩ | ⟨g, cap, cur, e, -⟩
            · rw [hfv] at e; cases e; rw [hz]; rfl
            · rw [hfv] at e; cases e; rfl
          rw [hfv, hn5] at k0
          have G1 := Lib.hid hd'
          have G2 := Lib.hid hfm
          have G3 := Lib.hid hfr
          have G4 := Lib.hid hdl
          have G5 : Hid (ss.take (k + 1) = ss.take k ++ [ss[k]]) := by show _ = _; rw [List.take_succ_eq_append_getElem hlt]
          generalize ss[k] = x at *
          unfold encS at hcell
          clear hd' hfm hfr hdl hff hfa hf0 hc' kf hfv hn5 hm2
          go_wp2_with fail
          go_region
          all_goals
            go_wp2_with fail
            go_roundw
            case rel =>
              have hnm := (findR_split G3.out).1
              have e9 := syncF_snoc st.tick.files (ss.take k) x
              have hwf := HWF.out.tick.sync (ss.take (k + 1))
              rw [G5.out, e9] at hwf
              rw [← hnm] at hwf e9
              obtain ⟨g1, g2⟩ := G1.out.set1 G2.out (safe' := f.data.length) (fun f => { f with safe := f.data.length }) rfl hwf _ rfl
              have g3 : Mod (Plus S w wr) wr (wr.setCell ⟨f.blk, 1, none⟩ (.int .i64 (f.data.length : Int))).drew := g2.drew
              have g4 := g1.kept ((Mod.refl Nil (wr.setCell ⟨f.blk, 1, none⟩ (.int .i64 (f.data.length : Int)))).drew) (fun _ _ e => e)
              refine ⟨k + 1, by omega, by go_num, hml.plus g3, ?_⟩
              refine Exists.intro (fs'.map (updR { f with safe := f.data.length })) ?_
              rw [G5.out, ← hnm, e9]
              exact DiskAt.plus2 (b := wr) g4 hml.size g3.size
            case measure => simp [intOf]; omega
        · have hk' : k = ss.length := by omega
          have G4 := Lib.hid hdl
          have HK := Lib.hid hk'
          clear hdl hk'
          go_wp2_with fail
          go_ret
          obtain ⟨fs', hd'⟩ := G4.out
          rw [HK.out, List.take_length] at hd'
          exact ⟨by rw [e1.out]; rfl, hml, fs', by rw [e1.out]; exact hd'⟩

end
end Go.Proofs.YtglkonhhknaomaaDoor
