/- The walks of disk's small calls: New, Stop, stopped, Safe. -/
import Derived.Test.YtglkonhhknaomaaDoorEchDisk0
namespace Go.Proofs.YtglkonhhknaomaaDoor
open Go.RowKit Go.Maps Go.WideMaps

section
variable {w : World} {S : Nat → Prop} {d mb : Nat} {st : DSt} {fs : List FileR}

theorem DiskAt.setCalls (h : DiskAt w S d mb st fs) (c : Int) (h0 : -1 ≤ c) (h1 : c ≤ 9223372036854775807) :
    DiskAt (w.setCell ⟨d, 2, none⟩ (.int .i64 c)) S d mb { st with calls := c } fs ∧ Mod S w (w.setCell ⟨d, 2, none⟩ (.int .i64 c)) := by
  have hm : Mod (fun k => k = d) w (w.setCell ⟨d, 2, none⟩ (.int .i64 c)) := (Mod.refl (fun k => k = d) w).setCell (p := ⟨d, 2, none⟩) (.inl rfl) _
  refine ⟨?_, hm.mono fun k _ e => by subst e; exact h.ownD⟩
  exact {
    blk := by rw [blk_set h.blk]; rfl
    map := by
      obtain ⟨es, clock, hb, r⟩ := h.map
      exact ⟨es, clock, blk_mod hm hb (fun e => h.apart.ne e.symm), r⟩
    files := fun f hf => (h.files f hf).kept hm (fun k hk e => (h.apart.out f hf k hk).1 e)
    apart := h.apart
    ownD := h.ownD
    ownM := h.ownM
    own := h.own
    inS := fun k hk => Nat.lt_of_lt_of_le (h.inS k hk) hm.size
    abs := h.abs
    wf := ⟨h.wf.room, h.wf.fits, h.wf.small, h0, h1, h.wf.sorted, h.wf.safe, h.wf.count, h.wf.names⟩ }

set_option maxHeartbeats 400000 in
theorem stopped_any (h : DiskAt w S d mb st fs) :
    Calls Tryd.prog 32 #[.pointer (some ⟨d, 0, none⟩)] w fun e w' => e = .returned (.bool st.halts) ∧ DiskAt w' S d mb st.tick fs ∧ Mod S w w' ∧ w'.heap.size = w.heap.size := by
  obtain ⟨-, -, c2, hfz⟩ := h.cells
  have hfz2 := hfz 2
  have b0 := h.wf.calls0
  have b1 := h.wf.calls1
  by_cases hp : 0 < st.calls
  · obtain ⟨g1, g2⟩ := h.setCalls (st.calls - 1) (by omega) (by omega)
    have H1 := Lib.hid g1
    have e1 : Hid (st.halts = false) := by show _ = _; simp [DSt.halts]; omega
    have e2 : Hid (st.tick = { st with calls := st.calls - 1 }) := by show _ = _; simp [DSt.tick, hp]
    clear g1 h hfz
    go_enter Tryd.func32, Tryd.ntmps32
    go_wp2
    go_ret
    exact ⟨congrArg (fun b => Ending.returned (.bool b)) e1.out.symm, by rw [e2.out]; exact H1.out, g2, by simp [World.setCell]⟩
  · have e2 : Hid (st.tick = st) := by show _ = _; simp [DSt.tick, hp]
    have H1 := Lib.hid h
    clear h hfz
    go_enter Tryd.func32, Tryd.ntmps32
    go_wp2
    go_ret
    exact ⟨rfl, by rw [e2.out]; exact H1.out, Mod.refl _ _, rfl⟩

set_option maxHeartbeats 400000 in
theorem stop_any (h : DiskAt w S d mb st fs) (n : Int) (hn : n ≤ 9223372036854775807) :
    Calls Tryd.prog 7 #[.pointer (some ⟨d, 0, none⟩), .int .i64 n] w fun e w' => e = .returned (.tuple #[]) ∧ DiskAt w' S d mb (st.stop n) fs ∧ Mod S w w' ∧ w'.heap.size = w.heap.size := by
  obtain ⟨-, -, c2, hfz⟩ := h.cells
  have hfz2 := hfz 2
  by_cases hn1 : n < -1
  · obtain ⟨g1, g2⟩ := h.setCalls (-1) (by omega) (by omega)
    have H1 := Lib.hid g1
    have e2 : Hid (st.stop n = { st with calls := -1 }) := by show _ = _; unfold DSt.stop; rw [show max n (-1) = -1 from by omega]
    clear g1 h hfz
    go_enter Tryd.func7, Tryd.ntmps7
    go_wp2
    go_end0
    exact ⟨rfl, by rw [e2.out]; exact H1.out, g2, by simp [World.setCell]⟩
  · obtain ⟨g1, g2⟩ := h.setCalls n (by omega) (by omega)
    have H1 := Lib.hid g1
    have e2 : Hid (st.stop n = { st with calls := n }) := by show _ = _; unfold DSt.stop; rw [show max n (-1) = n from by omega]
    clear g1 h hfz
    go_enter Tryd.func7, Tryd.ntmps7
    go_wp2
    go_end0
    exact ⟨rfl, by rw [e2.out]; exact H1.out, g2, by simp [World.setCell]⟩

set_option maxHeartbeats 400000 in
theorem safe_any (h : DiskAt w S d mb st fs) (s : ByteArray) (hs : s.size ≤ maxLen) :
    Calls Tryd.prog 15 #[.pointer (some ⟨d, 0, none⟩), .string s] w fun e w' =>
      e = .returned (.int .i64 (safeOf st.files s.data.toList)) ∧ w' = w := by
  obtain ⟨-, c1, -, -⟩ := h.cells
  have hl := h.lookup s hs
  have e0 := findR_abs fs s.data.toList
  rw [← h.abs] at e0
  cases hf : findR fs s.data.toList with
  | none =>
    simp only [lookV, hf] at hl
    have e1 : Hid (safeOf st.files s.data.toList = 0) := by show _ = _; unfold safeOf; rw [e0, hf]; rfl
    clear h e0 hf hs
    go_enter Tryd.func15, Tryd.ntmps15
    go_wp2
    go_ret
    exact ⟨by rw [e1.out]; rfl, rfl⟩
  | some f =>
    simp only [lookV, hf] at hl
    have e1 : Hid (safeOf st.files s.data.toList = f.safe) := by show _ = _; unfold safeOf; rw [e0, hf]; rfl
    obtain ⟨-, k1, -⟩ := (h.files f (List.mem_of_find?_eq_some hf)).cells
    clear h e0 hf hs
    go_enter Tryd.func15, Tryd.ntmps15
    go_wp2
    go_ret
    exact ⟨by rw [e1.out]; rfl, rfl⟩

set_option maxHeartbeats 400000 in
theorem new_bad (w : World) (room : Int) (h : room < 0) :
    Calls Tryd.prog 6 #[.int .i64 room] w fun e w' => e = .returned (.tuple #[.pointer none, .int .i64 2]) ∧ w' = w := by
  go_enter Tryd.func6, Tryd.ntmps6
  go_wp2
  go_ret2
  exact ⟨rfl, rfl⟩

set_option maxHeartbeats 400000 in
theorem new_any (w : World) (room : Nat) (h : room ≤ 9223372036854775807) :
    Calls Tryd.prog 6 #[.int .i64 (room : Int)] w fun e w' => ∃ d mb, e = .returned (.tuple #[.pointer (some ⟨d, 0, none⟩), .int .i64 0]) ∧ DiskAt w' (Plus Nil w w') d mb ⟨room, -1, []⟩ [] ∧ Mod Nil w w' := by
  have hmm := @run_makeMap Tryd.prog
  go_enter Tryd.func6, Tryd.ntmps6
  go_wp2
  go_ret2
  refine ⟨_, w.heap.size, rfl, ?_, ((Mod.refl _ _).alloc _).alloc _⟩
  have hz : ((w.alloc (.map #[] 0)).alloc (.cells #[.int .i64 (room : Int), .map (some w.heap.size), .int .i64 (-1)] 52)).heap.size = w.heap.size + 2 := by simp
  have hb := blk_new (w.alloc (.map #[] 0)) (.cells #[.int .i64 (room : Int), .map (some w.heap.size), .int .i64 (-1)] 52)
  have e1 : (w.alloc (.map #[] 0)).heap.size = w.heap.size + 1 := by simp
  rw [e1] at hb
  exact {
    blk := hb
    map := (World.ownsMap_made w Tryd.prog 9 ptrR).alloc _
    files := fun f hf => by cases hf
    apart := ⟨by omega, (fun f hf => by cases hf), List.Pairwise.nil, (fun f hf => by cases hf)⟩
    ownD := .inr (by rw [hz]; omega)
    ownM := .inr (by rw [hz]; omega)
    own := fun f hf => by cases hf
    inS := fun k hk => by
      rcases hk with hk | hk
      · exact hk.elim
      · exact hk.2
    abs := rfl
    wf := ⟨h, by simp [total], by simp [total], by simp, by simp, by simp, by simp, by simp, by simp⟩ }

end
end Go.Proofs.YtglkonhhknaomaaDoor
