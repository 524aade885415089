/- The walk of disk's Cut. -/
import Derived.Test.YtglkonhhknaomaaDoorEchUpd
namespace Go.Proofs.YtglkonhhknaomaaDoor
open Go.RowKit Go.Maps Go.WideMaps

section
variable {w : World} {S : Nat → Prop} {d mb : Nat} {st : DSt} {fs : List FileR}

theorem plus_self {w w' : World} (h : DiskAt w' S d mb st fs) : DiskAt w' (Plus S w w') d mb st fs :=
  { h with ownD := .inl h.ownD, ownM := .inl h.ownM, own := fun f hf k hk => .inl (h.own f hf k hk), inS := fun k hk => by rcases hk with hk | hk; exact h.inS k hk; exact hk.2 }

/-- From a later world back to the first. -/
theorem DiskAt.plus {w w1 w' : World} (h : DiskAt w' (Plus S w1 w') d mb st fs) (hm : Mod S w w1) : DiskAt w' (Plus S w w') d mb st fs := by
  have hs : ∀ k, Plus S w1 w' k → Plus S w w' k := fun k hk => by
    rcases hk with hk | hk
    · exact .inl hk
    · exact .inr ⟨Nat.le_trans hm.size hk.1, hk.2⟩
  exact { h with ownD := hs _ h.ownD, ownM := hs _ h.ownM, own := fun f hf k hk => hs k (h.own f hf k hk), inS := fun k hk => hk.elim (fun hk => h.inS k (.inl hk)) (fun hk => hk.2) }

/-- What a call on a disk leaves: the answer, the disk behind it, and what has turned. -/
def DiskPost (w : World) (S : Nat → Prop) (d mb : Nat) (r : Nat × DSt) (e : Ending) (w' : World) : Prop :=
  e = .returned (.int .i64 (r.1 : Int)) ∧ Mod S w w' ∧ ∃ fs', DiskAt w' (Plus S w w') d mb r.2 fs'

theorem own_take {w : World} {g cap : Nat} {l : List UInt8} (h : OwnBytes w (.slice (some ⟨g, 0, none⟩) l.length cap) l) (k : Nat) (hk : k ≤ l.length) :
    OwnBytes w (.slice (some ⟨g, 0, none⟩) k cap) (l.take k) := by
  rcases h.form with ⟨h, _⟩ | ⟨g', cap', cur, e, hg, h1, h2, h3, h4⟩
  · cases h
  · simp only [Value.slice.injEq, Option.some.injEq, Addr.mk.injEq, and_true, true_and] at e
    obtain ⟨rfl, rfl⟩ := e
    refine ⟨by simp, .inr ⟨g, cap, cur, by rw [List.length_take, Nat.min_eq_left hk], Nat.zero_le _, hg, by simp; omega, h2, by omega, ?_⟩⟩
    rw [List.map_take, ← h4, List.take_take]
    simp

set_option maxRecDepth 100000 in
set_option maxHeartbeats 800000 in
theorem cut_any (h : DiskAt w S d mb st fs) (s : ByteArray) (hs : s.size ≤ maxLen) (n : Int) :
    Calls Tryd.prog 24 #[.pointer (some ⟨d, 0, none⟩), .string s, .int .i64 n] w (DiskPost w S d mb (st.cut s.data.toList n)) := by
  obtain ⟨-, c1, -, -⟩ := h.cells
  have hl := h.lookup s hs
  have hst := stopped_any h
  have HS := Lib.hid hst
  clear hst hs
  by_cases hh : st.halts = true
  · have e1 : Hid (st.cut s.data.toList n = (32, st)) := by show _ = _; simp [DSt.cut, hh]
    have HH := Lib.hid hh
    have e2 : Hid (st.tick = st) := DSt.tick_halted hh
    clear h hh
    obtain ⟨p, hp⟩ := lookV_ptr fs s.data.toList
    rw [hp] at hl
    clear hp
    go_enter Tryd.func24, Tryd.ntmps24
    go_wp2_with fail
    refine HS.out.mono ?_
    rintro e w1 ⟨rfl, hd, hm, -⟩
    have HD := Lib.hid hd
    clear hd HS
    rw [HH.out]
    go_wp2_with fail
    go_ret
    exact ⟨by rw [e1.out]; rfl, hm, fs, by rw [e1.out]; have := HD.out; rw [e2.out] at this; exact plus_self this⟩
  · have hh2 : st.halts = false := by simpa using hh
    have HH := Lib.hid hh2
    clear hh hh2
    cases hf : findR fs s.data.toList with
    | none =>
      have hff : findF st.files s.data.toList = none := by rw [h.abs, findR_abs, hf]; rfl
      have e1 : Hid (st.cut s.data.toList n = (30, st.tick)) := by show _ = _; simp [DSt.cut, HH.out, DSt.tick_files, hff]
      simp only [lookV, hf] at hl
      clear h hf hff
      go_enter Tryd.func24, Tryd.ntmps24
      go_wp2_with fail
      refine HS.out.mono ?_
      rintro e w1 ⟨rfl, hd, hm, -⟩
      have HD := Lib.hid hd
      clear hd HS
      rw [HH.out]
      go_wp2_with fail
      go_ret
      exact ⟨by rw [e1.out]; rfl, hm, fs, by rw [e1.out]; exact plus_self HD.out⟩
    | some f =>
      have hff : findF st.files s.data.toList = some f.abs := by rw [h.abs, findR_abs, hf]; rfl
      obtain ⟨hfn, -⟩ := findR_split hf
      have hfm := List.mem_of_find?_eq_some hf
      simp only [lookV, hf] at hl
      have HF := Lib.hid hff
      have HN := Lib.hid hfn
      have HM := Lib.hid hfm
      clear h hf hff hfn hfm
      by_cases hn0 : n < 0
      · have e1 : Hid (st.cut s.data.toList n = (2, st.tick)) := by show _ = _; simp [DSt.cut, HH.out, DSt.tick_files, HF.out, hn0]
        go_enter Tryd.func24, Tryd.ntmps24
        go_wp2_with fail
        refine HS.out.mono ?_
        rintro e w1 ⟨rfl, hd, hm, -⟩
        have HD := Lib.hid hd
        clear hd HS
        rw [HH.out]
        go_wp2_with fail
        go_ret
        exact ⟨by rw [e1.out]; rfl, hm, fs, by rw [e1.out]; exact plus_self HD.out⟩
      · obtain ⟨k, rfl⟩ := Int.eq_ofNat_of_zero_le (Int.not_lt.1 hn0)
        clear hn0
        by_cases hnk : f.data.length < k
        · have e1 : Hid (st.cut s.data.toList k = (2, st.tick)) := by show _ = _; simp [DSt.cut, HH.out, DSt.tick_files, HF.out, FileR.abs]; omega
          go_enter Tryd.func24, Tryd.ntmps24
          go_wp2_with fail
          refine HS.out.mono ?_
          rintro e w1 ⟨rfl, hd, hm, -⟩
          obtain ⟨k0, -, -⟩ := (hd.files f HM.out).cells
          have hform := (hd.files f HM.out).2.form
          have HD := Lib.hid hd
          clear hd HS
          rw [HH.out]
          rcases hform with ⟨hv0, hd0⟩ | ⟨g, cap, cur, hv0, -, -, -, -, -⟩
          · have hl0 : f.data.length = 0 := by rw [hd0]; rfl
            clear hd0
            rw [hv0] at k0
            have hk0 : (0 : Int) < (k : Int) := by omega
            clear hl0
            go_wp2_with fail
            go_ret
            exact ⟨by rw [e1.out]; rfl, hm, fs, by rw [e1.out]; exact plus_self HD.out⟩
          · rw [hv0] at k0
            go_wp2_with fail
            go_ret
            exact ⟨by rw [e1.out]; rfl, hm, fs, by rw [e1.out]; exact plus_self HD.out⟩
        · have e1 : Hid (st.cut s.data.toList k = (0, { st.tick with files := chgF st.tick.files s.data.toList fun f => { f with data := f.data.take k, safe := min f.safe k } })) := by
            show _ = _
            have e3 : ¬ ((k : Int) < 0 ∨ (f.data.length : Int) < (k : Int)) := by omega
            simp only [DSt.cut, HH.out, DSt.tick_files, HF.out, FileR.abs, if_neg e3, Int.toNat_natCast, Bool.false_eq_true, if_false]
          go_enter Tryd.func24, Tryd.ntmps24
          go_wp2_with fail
          refine HS.out.mono ?_
          rintro e w1 ⟨rfl, hd, hm, -⟩
          obtain ⟨k0, k1, kf⟩ := (hd.files f HM.out).cells
          have kf0 := kf 0
          have kf1 := kf 1
          have hform := (hd.files f HM.out).2.form
          have HD := Lib.hid hd
          have hsafe : f.safe ≤ f.data.length := hd.wf.safe f.abs (by rw [hd.abs]; exact List.mem_map.2 ⟨f, HM.out, rfl⟩)
          clear hd HS kf
          rw [HH.out]
          rcases hform with ⟨hv0, hd0⟩ | ⟨g, cap, cur, hv0, -, hcap, -, -, -⟩
          · have hl0 : f.data.length = 0 := by rw [hd0]; rfl
            have hk0 : k = 0 := by omega
            subst hk0
            rw [hv0] at k0
            have HV := Lib.hid hv0
            have HD0 := Lib.hid hd0
            clear hd0 hv0
            go_wp2_with fail
            go_ret
            have e0 : min (f.safe : Int) 0 = ((0 : Nat) : Int) := by omega
            rw [e0]
            refine ⟨by rw [e1.out]; rfl, ?_⟩
            rw [e1.out]
            have ho : OwnBytes w1 (.slice none 0 0) [] := World.ownsRow_nil _ _ _ _
            have hwf := HD.out.wf.chg (F := fun f => { f with data := f.data.take 0, safe := min f.safe 0 }) (by rw [DSt.tick_files]; exact HF.out) (fun _ => rfl) (by simp) (by have := HD.out.wf.fits; simp; omega) (by have := HD.out.wf.small; simp; omega)
            rw [← HN.out] at hwf ⊢
            obtain ⟨g1, g2⟩ := HD.out.set2 HM.out (safe' := 0) ho (fun k hk => by cases hk) (fun f => { f with data := f.data.take 0, safe := min f.safe 0 }) (by simp [FileR.abs]) hwf _ rfl
            exact ⟨hm.trans g2 (fun i e => .inl e), _, g1.plus hm⟩
          · rw [hv0] at k0
            have HV := Lib.hid hv0
            have hkc : k ≤ cap := by omega
            clear hv0
            go_wp2_with fail
            go_ret
            have e0 : min (f.safe : Int) (k : Int) = ((min f.safe k : Nat) : Int) := by omega
            rw [e0]
            refine ⟨by rw [e1.out]; rfl, ?_⟩
            rw [e1.out]
            have ho : OwnBytes w1 (.slice (some ⟨g, 0, none⟩) k cap) (f.data.take k) := own_take (by have := (HD.out.files f HM.out).2; rw [HV.out] at this; exact this) k (by omega)
            have hwf := HD.out.wf.chg (F := fun f => { f with data := f.data.take k, safe := min f.safe k }) (by rw [DSt.tick_files]; exact HF.out) (fun _ => rfl) (by simp [FileR.abs]; omega) (by have := HD.out.wf.fits; simp [FileR.abs]; omega) (by have := HD.out.wf.small; simp [FileR.abs]; omega)
            rw [← HN.out] at hwf ⊢
            obtain ⟨g1, g2⟩ := HD.out.set2 HM.out (safe' := min f.safe k) ho (fun j hj => by rw [HV.out]; exact hj) (fun f => { f with data := f.data.take k, safe := min f.safe k }) rfl hwf _ rfl
            exact ⟨hm.trans g2 (fun i e => .inl e), _, g1.plus hm⟩

end
end Go.Proofs.YtglkonhhknaomaaDoor
