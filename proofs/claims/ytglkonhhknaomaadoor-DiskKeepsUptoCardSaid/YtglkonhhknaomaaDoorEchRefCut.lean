/- The walk of the document's disk's Cut. -/
import Derived.Test.YtglkonhhknaomaaDoorEchRefChg
import Derived.Test.YtglkonhhknaomaaDoorEchCut
import Derived.BigRegion
namespace Go.Proofs.YtglkonhhknaomaaDoor
open Go.RowKit Go.Maps

theorem idxF_cases : ∀ (fs : List RefR) (s : List UInt8) (i : Int), (findF (fs.map RefR.abs) s = none ∧ idxF (fs.map RefR.abs) s i = -1) ∨
    ∃ a, ∃ ha : a < fs.length, idxF (fs.map RefR.abs) s i = i + (a : Int) ∧ fs[a].name = s ∧ findF (fs.map RefR.abs) s = some fs[a].abs
  | [], s, i => .inl ⟨rfl, rfl⟩
  | f :: r, s, i => by
    by_cases h : f.name = s
    · refine .inr ⟨0, by simp, ?_, h, ?_⟩
      · show (if f.abs.name == s then i else _) = _
        rw [if_pos (by simpa [RefR.abs] using h)]; simp
      · show List.find? _ (f.abs :: r.map RefR.abs) = _
        rw [List.find?_cons_of_pos (by simpa [RefR.abs] using h)]; rfl
    · have e1 : findF ((f :: r).map RefR.abs) s = findF (r.map RefR.abs) s := by
        show List.find? _ (f.abs :: r.map RefR.abs) = _
        rw [List.find?_cons_of_neg (by simpa [RefR.abs] using h)]; rfl
      have e2 : idxF ((f :: r).map RefR.abs) s i = idxF (r.map RefR.abs) s (i + 1) := by
        show (if f.abs.name == s then i else _) = _
        rw [if_neg (by simpa [RefR.abs] using h)]
      rcases idxF_cases r s (i + 1) with ⟨h1, h2⟩ | ⟨a, ha, h1, h2, h3⟩
      · exact .inl ⟨by rw [e1, h1], by rw [e2, h2]⟩
      · exact .inr ⟨a + 1, by simpa using ha, by rw [e2, h1]; omega, by simpa using h2, by rw [e1, h3]; rfl⟩

theorem chgF_chgF (l : List DFile) (s : List UInt8) (F G : DFile → DFile) (hF : ∀ f, (F f).name = f.name) : chgF (chgF l s F) s G = chgF l s fun f => G (F f) := by
  unfold chgF
  rw [List.map_map]
  refine List.map_congr_left fun f _ => ?_
  simp only [Function.comp]
  by_cases h : (f.name == s) = true
  · rw [if_pos h, if_pos h, if_pos (by rw [hF]; exact h)]
  · rw [if_neg h, if_neg h, if_neg h]

def RefPost (w : World) (S : Nat → Prop) (r : Nat) (a : Nat × DSt) (e : Ending) (w' : World) : Prop :=
  e = .returned (.int .i64 (a.1 : Int)) ∧ Mod S w w' ∧ ∃ lv c fs, RefAt w' (Plus S w w') r lv c a.2 fs

section
variable {w : World} {S : Nat → Prop} {r : Nat} {lv : Value} {c : Int} {st : DSt} {fs : List RefR}

theorem RefAt.cases (h : RefAt w S r lv c st fs) (s : List UInt8) : (findF st.files s = none ∧ idxF st.files s 0 = -1) ∨ ∃ a, ∃ ha : a < fs.length, idxF st.files s 0 = (a : Int) ∧ fs[a].name = s ∧ findF st.files s = some fs[a].abs := by
  have := idxF_cases fs s 0
  rw [← h.abs] at this
  rcases this with e | ⟨a, ha, h1, h2, h3⟩
  · exact .inl e
  · exact .inr ⟨a, ha, by rw [h1]; omega, h2, h3⟩

theorem RefAt.slice (h : RefAt w S r lv c st fs) {a : Nat} (ha : a < fs.length) : ∃ g cap, lv = .slice (some ⟨g, 0, none⟩) fs.length cap ∧ fs.length ≤ cap ∧ g < w.heap.size ∧ g ≠ r ∧
    w.cell? ⟨g, a * 3, none⟩ = some (strV fs[a].name) ∧ w.cell? ⟨g, a * 3 + 1, none⟩ = some fs[a].v ∧ w.cell? ⟨g, a * 3 + 2, none⟩ = some (.int .i64 (fs[a].safe : Int)) ∧ ∀ o, w.frozen? ⟨g, o, none⟩ = false := by
  rcases h.form with ⟨e, rfl⟩ | ⟨g, cap, cur, e, hg, q1, q2, q3, q4⟩
  · simp at ha
  · obtain ⟨c0, c1, c2⟩ := row_cell hg q4 a ha
    exact ⟨g, cap, e, q1, blk_lt hg, fun e' => h.neR (by rw [e, ← e']; rfl), c0, c1, c2, blk_frozen hg⟩

/-- Its bytes, and how many are safe, stored anew. -/
theorem RefAt.setBoth (h : RefAt w S r lv c st fs) {a : Nat} (ha : a < fs.length) {g cap : Nat} (hlv : lv = .slice (some ⟨g, 0, none⟩) fs.length cap) (v : Value) (d : List UInt8) (s : Nat) (hb : OwnBytes w v d)
    (hown : ∀ k, v.ownBlock = some k → fs[a].v.ownBlock = some k) {F : DFile → DFile} (hF : F fs[a].abs = { fs[a].abs with data := d, safe := s }) (hwf : DSt.wf { st with files := chgF st.files fs[a].name F }) :
    RefAt ((w.setCell ⟨g, a * 3 + 1, none⟩ v).setCell ⟨g, a * 3 + 2, none⟩ (.int .i64 (s : Int))) S r lv c { st with files := chgF st.files fs[a].name F } (fs.set a { fs[a] with v := v, data := d, safe := s }) ∧ Mod S w ((w.setCell ⟨g, a * 3 + 1, none⟩ v).setCell ⟨g, a * 3 + 2, none⟩ (.int .i64 (s : Int))) := by
  have hfa := List.getElem_mem ha
  rcases h.form with ⟨e, _⟩ | ⟨g', cap', cur, e, hg, q1, q2, q3, q4⟩
  · rw [hlv] at e; cases e
  have e := hlv.symm.trans e
  cases e
  have hnn : ∀ k, fs[a].v.ownBlock = some k → k ≠ g := fun k e e' => (h.apart _ hfa k e).2 (by rw [hlv, e']; rfl)
  have hmg : Mod (fun k => k = g) w ((w.setCell ⟨g, a * 3 + 1, none⟩ v).setCell ⟨g, a * 3 + 2, none⟩ (.int .i64 (s : Int))) :=
    (((Mod.refl (fun k => k = g) w).setCell (p := ⟨g, a * 3 + 1, none⟩) (.inl rfl) _).setCell (p := ⟨g, a * 3 + 2, none⟩) (.inl rfl) _)
  have hset : rowOf (fs.set a { fs[a] with v := v, data := d, safe := s }) = ((rowOf fs).set (a * 3 + 1) v).set (a * 3 + 2) (.int .i64 (s : Int)) := by
    have e1 := rowOf_set1 fs a ha v d
    have e2 := rowOf_set2 (fs.set a { fs[a] with v := v, data := d }) a (by simpa using ha) s
    rw [e1] at e2
    rw [← e2]
    simp
  obtain ⟨g1, g2⟩ := h.change ha hlv hg (hmg.mono (S' := fun k => k = g ∨ fs[a].v.ownBlock = some k) fun k _ e => .inl e) (blk_set (blk_set hg _ _) _ _) { fs[a] with v := v, data := d, safe := s }
    (by rw [hset, ← q4, Array.toList_setIfInBounds, Array.toList_setIfInBounds, List.take_set, List.take_set]) (by simp)
    (hb.kept hmg (fun k e e' => hnn k (hown k e) e')) (fun k e => .inl (hown k e))
    (st' := { st with files := chgF st.files fs[a].name F }) (by rw [chgF_at fs a ha _ F (by rw [← h.abs]; exact h.wf.names_ne) hF.symm, h.abs]) hwf
  refine ⟨g1.bigger (S' := S) (fun k hk => hk.elim id (fun e => ?_)) (fun k hk => Nat.lt_of_lt_of_le (h.inS k hk) g2.size), g2⟩
  have : ((w.setCell ⟨g, a * 3 + 1, none⟩ v).setCell ⟨g, a * 3 + 2, none⟩ (.int .i64 (s : Int))).heap.size = w.heap.size := by simp [World.setCell]
  have h1 := e.1
  have h2 := e.2
  rw [this] at h2
  omega

set_option maxRecDepth 100000 in
set_option maxHeartbeats 1000000 in
theorem refCut_any (h : RefAt w S r lv c st fs) (s : List UInt8) (n : Int) (hn0 : -9223372036854775808 ≤ n) (hn1 : n ≤ 9223372036854775807) :
    Calls Tryd.prog 25 #[.pointer (some ⟨r, 0, none⟩), .string ⟨s.toArray⟩, .int .i64 n] w (RefPost w S r (st.cut s n)) := by
  have HST := Lib.hid (refStopped_any h)
  have H := Lib.hid h
  clear h
  go_enter Tryd.func25, Tryd.ntmps25
  go_wp2_with fail
  refine HST.out.mono ?_
  rintro e w1 ⟨rfl, ⟨c', hd⟩, hm, hsz⟩
  clear HST
  cases hh : st.halts with
  | true =>
    have e1 : Hid (st.cut s n = (32, st.tick)) := by show _ = _; rw [DSt.tick_halted hh]; simp [DSt.cut, hh]
    have HD := Lib.hid hd
    clear hd
    go_wp2_with fail
    go_ret
    exact ⟨by rw [e1.out]; rfl, hm, _, _, _, by rw [e1.out]; exact HD.out.plusSelf⟩
  | false =>
    have HF := Lib.hid (find_any hd s)
    have HD := Lib.hid hd
    have HH := Lib.hid hh
    rcases hd.cases s with ⟨hf, hi⟩ | ⟨a, ha, hi, hnm, hf⟩
    · have e1 : Hid (st.cut s n = (30, st.tick)) := by
        show _ = _
        have hf' : findF st.tick.files s = none := hf
        simp [DSt.cut, hh, hf']
      rw [hi] at HF
      clear hd hf hi hh
      go_wp2_with fail
      refine HF.out.mono ?_
      rintro e w2 ⟨rfl, rfl⟩
      go_wp2_with fail
      go_ret
      exact ⟨by rw [e1.out]; rfl, hm, _, _, _, by rw [e1.out]; exact HD.out.plusSelf⟩
    · rw [hi] at HF
      obtain ⟨g, cap, hlv, hcap, hglt, hgr, c0, c1, c2, fz⟩ := hd.slice ha
      subst hlv
      obtain ⟨-, d1, -, -, -⟩ := hd.cells
      have fz1 := fz (a * 3 + 1)
      have fz2 := fz (a * 3 + 2)
      have hfl : fs.length ≤ 4096 := by have := hd.wf.count; have := hd.len; omega
      have hsafe := hd.wf.safe fs[a].abs (by rw [hd.abs]; exact List.mem_map.2 ⟨_, List.getElem_mem _, rfl⟩)
      have hsafe' : fs[a].safe ≤ fs[a].data.length := hsafe
      have hsmall : fs[a].data.length ≤ 1099511627776 := by
        have h1 := total_mem (l := st.tick.files) (f := fs[a].abs) (by rw [hd.abs]; exact List.mem_map.2 ⟨_, List.getElem_mem _, rfl⟩)
        have h2 := hd.wf.small
        have : fs[a].abs.data.length = fs[a].data.length := rfl
        omega
      have HB := Lib.hid (hd.bytes fs[a] (List.getElem_mem ha))
      obtain ⟨va, vn, vc, hv⟩ := HB.out.slice
      have hvn : vn = fs[a].data.length ∧ fs[a].data.length ≤ vc := by
        rcases HB.out.form with ⟨e, hz⟩ | ⟨g, cap, cur, e, -, h5, -⟩
        · rw [hv] at e; cases e; rw [hz]; exact ⟨rfl, Nat.le_refl _⟩
        · rw [hv] at e; cases e; exact ⟨rfl, h5⟩
      obtain ⟨rfl, hvc⟩ := hvn
      rw [hv] at c1
      by_cases hbad : n < 0 ∨ (fs[a].data.length : Int) < n
      · have e1 : Hid (st.cut s n = (2, st.tick)) := by
          show _ = _
          have hf' : findF st.tick.files s = some fs[a].abs := hf
          simp only [DSt.cut, hh, Bool.false_eq_true, if_false, hf']
          exact if_pos hbad
        clear hd hf hi hh fz hnm
        go_wp2_with fail
        refine HF.out.mono ?_
        rintro e w2 ⟨rfl, rfl⟩
        go_wp2_with fail
        all_goals
          go_ret
          exact ⟨by rw [e1.out]; rfl, hm, _, _, _, by rw [e1.out]; exact HD.out.plusSelf⟩
      · obtain ⟨k, rfl⟩ : ∃ k : Nat, n = (k : Int) := ⟨n.toNat, by omega⟩
        have hk : k ≤ fs[a].data.length := by omega
        have e1 : Hid (st.cut s (k : Int) = (0, { st.tick with files := chgF st.tick.files s fun f => { f with data := f.data.take k, safe := min f.safe k } })) := by
          show _ = _
          have hf' : findF st.tick.files s = some fs[a].abs := hf
          simp only [DSt.cut, hh, Bool.false_eq_true, if_false, hf', Int.toNat_natCast]
          exact if_neg hbad
        have hwf : DSt.wf { st.tick with files := chgF st.tick.files s fun f => { f with data := f.data.take k, safe := min f.safe k } } := by
          refine hd.wf.chg hf (fun _ => rfl) ?_ ?_ ?_
          · show min fs[a].safe k ≤ (fs[a].data.take k).length
            rw [List.length_take]; omega
          · have := hd.wf.fits
            show total st.tick.files + (fs[a].data.take k).length ≤ st.tick.room + fs[a].data.length
            rw [List.length_take]; omega
          · have := hd.wf.small
            show total st.tick.files + (fs[a].data.take k).length ≤ 1099511627776 + fs[a].data.length
            rw [List.length_take]; omega
        have HNM := Lib.hid hnm
        have HWF := Lib.hid hwf
        have HV := Lib.hid hv
        have HFZ := Lib.hid fz
        rcases HB.out.form with ⟨e, hz⟩ | ⟨g2, cap2, cur2, e, -⟩
        · rw [hv] at e
          simp only [Value.slice.injEq] at e
          obtain ⟨rfl, hz0, rfl⟩ := e
          have hk0 : k = 0 := by omega
          subst hk0
          have hs0 : fs[a].safe = 0 := by omega
          rw [hz0] at c1
          rw [hs0] at c2
          have hnew : OwnBytes w1 (.slice none 0 0) (fs[a].data.take 0) := ⟨rfl, .inl ⟨rfl, rfl⟩⟩
          obtain ⟨q1, q2⟩ := HD.out.setBoth ha rfl (.slice none 0 0) (fs[a].data.take 0) 0 hnew (fun i e => nomatch e) (F := fun f => { f with data := f.data.take 0, safe := min f.safe 0 }) (by simp) (by rw [hnm]; exact hwf)
          have Q1 := Lib.hid q1
          have Q2 := Lib.hid q2
          clear hd hf hi hh fz hnm hwf hv q1 q2 hnew hbad
          go_wp2_with fail
          refine HF.out.mono ?_
          rintro e w2 ⟨rfl, rfl⟩
          go_wp2_with fail
          go_region
          all_goals (go_wp2_with fail; go_region)
          all_goals (go_wp2_with fail)
          go_ret
          have hq := Q1.out
          rw [HNM.out] at hq
          exact ⟨by rw [e1.out]; rfl, hm.trans Q2.out.drew.drew (fun _ e => .inl e), _, _, _, by rw [e1.out]; exact (hq.kept ((Mod.refl Nil _).drew.drew) (fun _ _ e => e)).plusSelf⟩
        · rw [hv] at e
          cases e
          have hnew := own_take (cap := vc) (k := k) (by rw [← hv]; exact HB.out) hk
          obtain ⟨q1, q2⟩ := HD.out.setBoth ha rfl (.slice (some ⟨g2, 0, none⟩) k vc) (fs[a].data.take k) (min fs[a].safe k) (by simpa using hnew) (fun i e => by rw [hv]; exact e) (F := fun f => { f with data := f.data.take k, safe := min f.safe k }) rfl (by rw [hnm]; exact hwf)
          have Q1 := Lib.hid q1
          have Q2 := Lib.hid q2
          clear hd hf hi hh fz hnm hwf hv q1 q2 hnew hbad
          go_wp2_with fail
          refine HF.out.mono ?_
          rintro e w2 ⟨rfl, rfl⟩
          go_wp2_with fail
          go_region
          all_goals (go_wp2_with fail; go_region)
          all_goals (go_wp2_with fail)
          go_ret
          have em : (min (fs[a].safe : Int) (k : Int)) = ((min fs[a].safe k : Nat) : Int) := by omega
          rw [em]
          have hq := Q1.out
          rw [HNM.out] at hq
          exact ⟨by rw [e1.out]; rfl, hm.trans Q2.out.drew.drew (fun _ e => .inl e), _, _, _, by rw [e1.out]; exact (hq.kept ((Mod.refl Nil _).drew.drew) (fun _ _ e => e)).plusSelf⟩

end
end Go.Proofs.YtglkonhhknaomaaDoor
