/- The walk of disk's Crash. -/
import Derived.Test.YtglkonhhknaomaaDoorEchRemove
namespace Go.Proofs.YtglkonhhknaomaaDoor
open Go.RowKit Go.Maps Go.WideMaps

/-- A slice of the ints ks, somewhere: it can be read. -/
def IntsAt (w : World) (v : Value) (ks : List Int) : Prop :=
  ∃ (p : Option Addr) (cap : Nat), v = .slice p ks.length cap ∧ ks.length ≤ maxLen ∧ (∀ x ∈ ks, -9223372036854775808 ≤ x ∧ x ≤ 9223372036854775807) ∧
    ∀ i (_ : i < ks.length), ∃ b off, p = some ⟨b, off, none⟩ ∧ w.cell? ⟨b, off + i, none⟩ = some (.int .i64 ks[i])

section
variable {w : World} {S : Nat → Prop} {d mb : Nat} {st : DSt} {fs : List FileR}

/-- A file's block has been written, cell by cell. -/
theorem DiskAt.setBlk (h : DiskAt w S d mb st fs) {f : FileR} (hf : f ∈ fs) {v' : Value} {data' : List UInt8} {safe' : Nat} (ho : OwnBytes w v' data') (hv : ∀ k, v'.ownBlock = some k → f.v.ownBlock = some k)
    (F : DFile → DFile) (hF : (⟨f.name, data', safe'⟩ : DFile) = F f.abs) (hwf : DSt.wf { st with files := chgF st.files f.name F })
    {w' : World} (hm : Mod (fun k => k = f.blk) w w') (hb : w'.heap[f.blk]? = some (.cells #[v', .int .i64 (safe' : Int)] 63 (0, 0))) :
    DiskAt w' (Plus S w w') d mb { st with files := chgF st.files f.name F } (fs.map (updR { f with v := v', data := data', safe := safe' })) ∧ Mod S w w' := by
  refine h.change (f' := { f with v := v', data := data', safe := safe' }) hm hf (fun k _ e => by subst e; simp [FileR.blks]) rfl rfl ⟨hb, ?_⟩ (fun k hk => .inl (hv k hk)) F hF hwf
  exact ho.kept hm (fun k hk e => by subst e; exact h.apart.self f hf (hv _ hk))

theorem own_takeV {w : World} {a : Option Addr} {c : Nat} {l : List UInt8} (h : OwnBytes w (.slice a l.length c) l) (k : Nat) (hk : k ≤ l.length) : OwnBytes w (.slice a k c) (l.take k) := by
  rcases h.form with ⟨e, hz⟩ | ⟨g, cap, cur, e, _⟩
  · subst hz
    cases e
    have : k = 0 := by simpa using hk
    subst this
    exact h
  · cases e
    exact own_take h k hk

theorem not_new {w w' : World} (h : DiskAt w' (Plus S w w') d mb st fs) (hz : w'.heap.size = w.heap.size) : DiskAt w' S d mb st fs := by
  have hs : ∀ k, Plus S w w' k → S k := fun k hk => hk.elim id (fun e => by omega)
  exact { h with ownD := hs _ h.ownD, ownM := hs _ h.ownM, own := fun f hf k hk => hs k (h.own f hf k hk), inS := fun k hk => h.inS k (.inl hk) }

theorem crash_step {wr W : World} {ks : List Int} {k : Nat} {fs' : List FileR} {f : FileR} {a5 : Option Addr} {c5 s' : Nat} (h : DiskAt wr S d mb { st with calls := -1, files := midF st.files ks k } fs') (hf : f ∈ fs') (hv : f.v = .slice a5 f.data.length c5)
    (hs : s' ≤ f.data.length) (hst : stays f.abs ks[k]? = s') (hstep : midF st.files ks (k + 1) = chgF (midF st.files ks k) f.abs.name fun f => cr f ks[k]?) (hwf : DSt.wf { st with calls := -1, files := midF st.files ks (k + 1) })
    (hW : W = (wr.setCell ⟨f.blk, 1, none⟩ (.int .i64 (s' : Int))).setCell ⟨f.blk, 0, none⟩ (.slice a5 s' c5)) :
    ∃ fs2, DiskAt W S d mb { st with calls := -1, files := midF st.files ks (k + 1) } fs2 ∧ Mod S wr W := by
  have hm : Mod (fun k => k = f.blk) wr W := by
    rw [hW]
    exact ((Mod.refl (fun k => k = f.blk) wr).setCell (p := ⟨f.blk, 1, none⟩) (.inl rfl) _).setCell (p := ⟨f.blk, 0, none⟩) (.inl rfl) _
  have ho : OwnBytes wr (.slice a5 s' c5) (f.data.take s') := own_takeV (by have := (h.files f hf).2; rw [hv] at this; exact this) s' hs
  rw [hstep] at hwf ⊢
  obtain ⟨g1, g2⟩ := h.setBlk hf (safe' := s') ho (fun j hj => by rw [hv]; cases a5 <;> exact hj) (fun f => cr f ks[k]?) (by
    unfold cr
    rw [hst]
    rfl) hwf hm (by
    rw [hW, blk_set (blk_set (h.files f hf).1 1 (.int .i64 (s' : Int))) 0]
    rfl)
  exact ⟨_, not_new g1 (by rw [hW]; simp [World.setCell]), g2⟩

/-- What a crash leaves. -/
def CrashPost (w : World) (S : Nat → Prop) (d mb : Nat) (st : DSt) (ks : List Int) (e : Ending) (w' : World) : Prop :=
  e = .returned (.int .i64 (goneF st.files ks : Int)) ∧ Mod S w w' ∧ ∃ fs', DiskAt w' (Plus S w w') d mb (st.crash ks) fs'

set_option maxRecDepth 100000 in
set_option maxHeartbeats 2000000 in
theorem crash_any (h : DiskAt w S d mb st fs) (v : Value) (ks : List Int) (hks : IntsAt w v ks) (hout : ∀ p n c, v = .slice (some p) n c → 0 < n → ¬ S p.block) :
    Calls Tryd.prog 10 #[.pointer (some ⟨d, 0, none⟩), v] w (CrashPost w S d mb st ks) := by
  obtain ⟨p, cap, rfl, hl, hx, hc⟩ := hks
  have hc1 : ∀ w1, Mod S w w1 → ∀ i (_ : i < ks.length), ∃ b off, p = some ⟨b, off, none⟩ ∧ w1.cell? ⟨b, off + i, none⟩ = some (.int .i64 ks[i]) := fun w1 hm i hi => by
    obtain ⟨b, off, rfl, hcell⟩ := hc i hi
    exact ⟨b, off, rfl, by rw [hm.cell (p := ⟨b, off + i, none⟩) (World.block_lt_of_cell? w _ hcell) (hout ⟨b, off, none⟩ _ _ rfl (show 0 < ks.length by omega))]; exact hcell⟩
  have hl' : ks.length ≤ 9223372036854775807 := hl
  have HX := Lib.hid hx
  have H1 := Lib.hid hc1
  have HWF := Lib.hid h.wf
  obtain ⟨-, -, c2, hfz⟩ := h.cells
  have hfz2 := hfz 2
  obtain ⟨g1, g2⟩ := h.setCalls (-1) (by omega) (by omega)
  have HA := Lib.hid g1
  have HN := Lib.hid (names_any g1)
  have hcnt : st.files.length ≤ 4096 := h.wf.count
  clear g1 h hfz hc hc1 hx hl hout
  go_enter Tryd.func10, Tryd.ntmps10
  go_wp2_with fail
  refine HN.out.mono ?_
  rintro e w1 ⟨u, rfl, hu, hb1⟩
  have hsu := StrsAt.ofNew hu (fun x hx => by
    obtain ⟨f, hf, rfl⟩ := List.mem_map.1 hx
    have := HWF.out.names f hf
    unfold maxLen; omega)
  have HU := Lib.hid hu
  have hm1 : Mod S w w1 := g2.trans (Mod.ofBelow hb1 Nil) (fun k hk => hk.elim)
  have HD1 := Lib.hid (HA.out.kept (Mod.ofBelow hb1 Nil) (fun _ _ e => e))
  have hnl : (namesOf st.files).length = st.files.length := by simp [namesOf]
  obtain ⟨pu, cu, rfl, hun, -, huc⟩ := hsu
  rw [hnl] at HU
  have HUB : Hid (∀ a, pu = some a → ¬ S a.block) := by
    intro a e hS
    subst e
    have h1 := (World.ownsRow.lt hu a.block rfl).1
    have h2 := HA.out.inS _ hS
    omega
  have HUC := Lib.hid huc
  rw [hnl]
  clear hu HN huc hb1 hun HA g2
  go_wp2_with fail
  go_loopw [5, 6, 7, 8, 9, 16] (fun g _ _ _ _ i wl => ∃ k : Nat, k ≤ st.files.length ∧ i = .int .i64 (k : Int) ∧ g = .int .i64 (goneF (st.files.take k) ks : Int) ∧ Mod S w wl ∧ Mod S w1 wl ∧ Hid (∃ fs', DiskAt wl S d mb { st with calls := -1, files := midF st.files ks k } fs')) (fun _ _ _ _ _ i _ => st.files.length - (intOf i).toNat)
  case atStart =>
    refine ⟨0, Nat.zero_le _, rfl, by simp [goneF], hm1, Mod.refl _ _, ?_⟩
    refine Exists.intro fs ?_
    rw [midF_zero]
    exact HD1.out
  case round =>
    obtain ⟨k, hk, rfl, rfl, hml, hml1, hdl⟩ := hrel
    by_cases hlt : k < st.files.length
    · obtain ⟨fs', hd'⟩ := hdl.out
      have hwf0 : DSt.wf { st with calls := -1, files := st.files } := ⟨HWF.out.room, HWF.out.fits, HWF.out.small, by simp, by simp, HWF.out.sorted, HWF.out.safe, HWF.out.count, HWF.out.names⟩
      have hff := findF_mid HWF.out ks k hlt
      obtain ⟨f, hfm, hfr, hfa⟩ := hd'.file hff
      obtain ⟨b, off, rfl, hcell⟩ := HUC.out k (by rw [hnl]; exact hlt)
      have hcw : wr.cell? ⟨b, off + k, none⟩ = some (encS st.files[k].name) := by
        rw [hml1.cell (p := ⟨b, off + k, none⟩) (World.block_lt_of_cell? w1 _ hcell) (HUB.out ⟨b, off, none⟩ rfl), hcell]
        simp [namesOf]
      have hlk := hd'.lookup ⟨st.files[k].name.toArray⟩ (by have := HWF.out.names _ (List.getElem_mem hlt); show st.files[k].name.toArray.size ≤ maxLen; simp; unfold maxLen; omega)
      rw [show lookV fs' (⟨st.files[k].name.toArray⟩ : ByteArray).data.toList = .pointer (some ⟨f.blk, 0, none⟩) from by unfold lookV; rw [show findR fs' (⟨st.files[k].name.toArray⟩ : ByteArray).data.toList = some f from hfr]] at hlk
      obtain ⟨-, c1, -, -⟩ := hd'.cells
      obtain ⟨k0, k1, kf⟩ := (hd'.files f hfm).cells
      have kf0 := kf 0
      have kf1 := kf 1
      obtain ⟨a5, n5, c5, hfv⟩ := (hd'.files f hfm).2.slice
      have hn5 : n5 = f.data.length := by
        rcases (hd'.files f hfm).2.form with ⟨e, hz⟩ | ⟨g, cap, cur, e, -⟩
        · rw [hfv] at e; cases e; rw [hz]; rfl
        · rw [hfv] at e; cases e; rfl
      rw [hfv, hn5] at k0
      have hsafe := HWF.out.safe _ (List.getElem_mem hlt)
      rw [hfa] at hsafe
      have hsafe' : f.safe ≤ f.data.length := hsafe
      have hgt := goneF_take st.files ks k hlt
      have hgl := goneF_le (st.files.take (k + 1)) ks
      have htl := total_take_le st.files (k + 1)
      have hsm := HWF.out.small
      have hstep := midF_step HWF.out.names_ne ks k hlt
      have hwf1 := hwf0.mid ks (k + 1) (show k + 1 ≤ st.files.length by omega)
      rw [hfa] at hgt hstep
      have hname : f.name = st.files[k].name := by rw [hfa]; rfl
      have hlen : f.abs.data.length = f.data.length := rfl
      rw [hlen] at hgt
      have G0 := Lib.hid hd'
      have G1 := Lib.hid hfm
      have G2 := Lib.hid hstep
      have G3 := Lib.hid hwf1
      have G4 := Lib.hid hgt
      have G5 := Lib.hid hfv
      have G6 := Lib.hid hname
      have G7 : Hid (n5 = f.data.length) := hn5
      have hgl2 : goneF (st.files.take (k + 1)) ks ≤ 1099511627776 := by omega
      have hstl := stays_le (f := f.abs) hsafe ks[k]?
      have hfile := (hd'.files f hfm).1
      have hcap : f.data.length ≤ c5 := by
        rcases (hd'.files f hfm).2.form with ⟨e, hz⟩ | ⟨g, cap, cur, e, -, h5, -⟩
        · rw [hz]; exact Nat.zero_le _
        · rw [hfv] at e; cases e; exact h5
      have hfl : f.data.length ≤ 1099511627776 := by
        have := total_mem (List.getElem_mem hlt)
        rw [hfa] at this
        have e : f.abs.data.length = f.data.length := rfl
        omega
      have hsc : f.safe ≤ c5 := by omega
      have hgk : goneF (st.files.take k) ks ≤ 1099511627776 := by omega
      have G8 := Lib.hid hfile
      unfold encS at hcw
      clear hd' hfm hfr hfa hff hcell hdl hfv hgl htl hsm hstep hwf1 hwf0 hname hlen hsafe kf hfile hm1 hgt hn5
      generalize st.files[k].name = nm at *
      by_cases hik : k < ks.length
      · obtain ⟨b2, off2, rfl, hkc⟩ := H1.out wr hml k hik
        have hkb := HX.out ks[k] (List.getElem_mem hik)
        have hst : Hid (stays f.abs ks[k]? = f.safe + min ks[k].toNat (f.data.length - f.safe)) := by show _ = _; rw [List.getElem?_eq_getElem hik]; rfl
        have HST := Lib.hid hstl
        have HKB := Lib.hid hkb
        clear hstl
        generalize ks[k] = x at *
        have hkb1 := hkb.1
        have hkb2 := hkb.2
        clear hkb
        go_wp2_with fail
        go_region
        all_goals (go_wp2_with fail; go_region)
        all_goals (go_wp2_with fail; go_region)
        all_goals (go_wp2_with fail)
        go_roundw
        case rel =>
          have ev : (f.safe : Int) + min (max x 0) ((f.data.length : Int) - (f.safe : Int)) = ((f.safe + min x.toNat (f.data.length - f.safe) : Nat) : Int) := by omega
          rw [ev, Int.toNat_natCast]
          obtain ⟨fs2, q1, q2⟩ := crash_step (s' := f.safe + min x.toNat (f.data.length - f.safe)) G0.out G1.out (by rw [G5.out, G7.out]) (by omega) hst.out G2.out G3.out rfl
          refine ⟨k + 1, by omega, by go_num, congrArg (Value.int .i64) (by have := G4.out; rw [hst.out] at this; omega), hml.trans q2.drew.drew.drew (fun i e => .inl e), hml1.trans q2.drew.drew.drew (fun i e => .inl e), ?_⟩
          refine Exists.intro fs2 ?_
          exact q1.kept ((Mod.refl Nil _).drew.drew.drew) (fun _ _ e => e)
        case measure => simp [intOf]; omega
      · have hst : Hid (stays f.abs ks[k]? = f.safe) := by show _ = _; rw [List.getElem?_eq_none (by omega)]; rfl
        have HST := Lib.hid hstl
        clear hstl
        go_wp2_with fail
        go_region
        all_goals (go_wp2_with fail; go_region)
        all_goals (go_wp2_with fail)
        go_roundw
        case rel =>
          obtain ⟨fs2, q1, q2⟩ := crash_step G0.out G1.out (by rw [G5.out, G7.out]) hsafe' hst.out G2.out G3.out rfl
          refine ⟨k + 1, by omega, by go_num, congrArg (Value.int .i64) (by have := G4.out; rw [hst.out] at this; omega), hml.trans q2.drew.drew (fun i e => .inl e), hml1.trans q2.drew.drew (fun i e => .inl e), ?_⟩
          refine Exists.intro fs2 ?_
          exact q1.kept ((Mod.refl Nil _).drew.drew) (fun _ _ e => e)
        case measure => simp [intOf]; omega
    · have hk' : k = st.files.length := by omega
      have G4 := Lib.hid hdl
      have HK := Lib.hid hk'
      clear hdl hk'
      go_wp2_with fail
      go_ret
      obtain ⟨fs', hd'⟩ := G4.out
      rw [HK.out, midF_all] at hd'
      exact ⟨congrArg (fun l => Ending.returned (.int .i64 ((goneF l ks : Nat) : Int))) (by rw [HK.out, List.take_length]), hml, fs', plus_self hd'⟩

end
end Go.Proofs.YtglkonhhknaomaaDoor
