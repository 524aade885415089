/- How the document's disk lies in memory: a block, a row of files, each file's bytes. -/
import Derived.Test.YtglkonhhknaomaaDoorEchApp
import Derived.Test.YtglkonhhknaomaaDoorEchPure
namespace Go.Proofs.YtglkonhhknaomaaDoor
open Go.RowKit Go.Maps

/-- A file of the document's disk, with the slice of its bytes. -/
structure RefR where
  name : List UInt8
  v : Value
  data : List UInt8
  safe : Nat
def RefR.abs (f : RefR) : DFile := ⟨f.name, f.data, f.safe⟩
def strV (s : List UInt8) : Value := .string ⟨s.toArray⟩
def RefR.cells (f : RefR) : List Value := [strV f.name, f.v, .int .i64 (f.safe : Int)]
def rowOf (fs : List RefR) : List Value := fs.flatMap RefR.cells

theorem rowOf_length (fs : List RefR) : (rowOf fs).length = fs.length * 3 := by
  unfold rowOf
  induction fs with
  | nil => rfl
  | cons f r ih => simp only [List.flatMap_cons, List.length_append, List.length_cons, ih]; simp [RefR.cells]; omega
theorem rowOf_get (fs : List RefR) (i : Nat) (hi : i < fs.length) (j : Nat) (hj : j < 3) : (rowOf fs)[i * 3 + j]? = (fs[i].cells)[j]? := by
  unfold rowOf
  induction fs generalizing i with
  | nil => simp at hi
  | cons f r ih =>
    rw [List.flatMap_cons]
    have hl : f.cells.length = 3 := rfl
    cases i with
    | zero => rw [List.getElem?_append_left (by omega)]; simp
    | succ i =>
      rw [List.getElem?_append_right (by omega), hl, show (i + 1) * 3 + j - 3 = i * 3 + j from by omega, ih i (by simpa using hi)]
      simp

structure RefAt (w : World) (S : Nat → Prop) (r : Nat) (lv : Value) (c : Int) (st : DSt) (fs : List RefR) : Prop where
  blk : w.heap[r]? = some (.cells #[.int .i64 (st.room : Int), lv, .bool (decide (0 ≤ st.calls)), .int .i64 c] 31 (0, 0))
  calls : 0 ≤ st.calls → c = st.calls
  row : w.ownsRow 0 75 3 lv fs.length (rowOf fs)
  bytes : ∀ f ∈ fs, OwnBytes w f.v f.data
  neR : lv.ownBlock ≠ some r
  apart : ∀ f ∈ fs, ∀ k, f.v.ownBlock = some k → k ≠ r ∧ lv.ownBlock ≠ some k
  pair : fs.Pairwise fun f g => ∀ k, f.v.ownBlock = some k → g.v.ownBlock ≠ some k
  ownR : S r
  ownL : ∀ k, lv.ownBlock = some k → S k
  own : ∀ f ∈ fs, ∀ k, f.v.ownBlock = some k → S k
  inS : ∀ k, S k → k < w.heap.size
  abs : st.files = fs.map RefR.abs
  wf : st.wf
def RefIn (w : World) (S : Nat → Prop) (r : Nat) (st : DSt) : Prop := ∃ lv c fs, RefAt w S r lv c st fs

section
variable {w : World} {S : Nat → Prop} {r : Nat} {lv : Value} {c : Int} {st : DSt} {fs : List RefR}

theorem RefAt.cells (h : RefAt w S r lv c st fs) :
    w.cell? ⟨r, 0, none⟩ = some (.int .i64 (st.room : Int)) ∧ w.cell? ⟨r, 1, none⟩ = some lv ∧ w.cell? ⟨r, 2, none⟩ = some (.bool (decide (0 ≤ st.calls))) ∧ w.cell? ⟨r, 3, none⟩ = some (.int .i64 c) ∧ ∀ o, w.frozen? ⟨r, o, none⟩ = false := by
  refine ⟨?_, ?_, ?_, ?_, blk_frozen h.blk⟩ <;> rw [blk_cell h.blk] <;> rfl

/-- The row: nil, or a block of its own. -/
theorem RefAt.form (h : RefAt w S r lv c st fs) :
    (lv = .slice none 0 0 ∧ fs = []) ∨ ∃ g cap cur, lv = .slice (some ⟨g, 0, none⟩) fs.length cap ∧ w.heap[g]? = some (.cells cur 75 (0, 0)) ∧ fs.length ≤ cap ∧ cap ≤ maxLen ∧ cur.size = cap * 3 ∧ cur.toList.take (fs.length * 3) = rowOf fs := by
  obtain ⟨hl, h⟩ := h.row
  rcases h with ⟨rfl, h0⟩ | ⟨g, cap, cur, rfl, _, hg, h1, h2, h3, h4⟩
  · exact .inl ⟨rfl, List.eq_nil_of_length_eq_zero h0⟩
  · exact .inr ⟨g, cap, cur, rfl, hg, h1, h2, h3, h4⟩

theorem row_cell {w : World} {g : Nat} {cur : Array Value} {fs : List RefR} (hg : w.heap[g]? = some (.cells cur 75 (0, 0))) (h4 : cur.toList.take (fs.length * 3) = rowOf fs) (i : Nat) (hi : i < fs.length) :
    w.cell? ⟨g, i * 3, none⟩ = some (strV fs[i].name) ∧ w.cell? ⟨g, i * 3 + 1, none⟩ = some fs[i].v ∧ w.cell? ⟨g, i * 3 + 2, none⟩ = some (.int .i64 (fs[i].safe : Int)) := by
  have key : ∀ j, j < 3 → cur[i * 3 + j]? = (fs[i].cells)[j]? := fun j hj => by
    have e := rowOf_get fs i hi j hj
    rw [← h4, List.getElem?_take, if_pos (by omega)] at e
    simpa using e
  refine ⟨?_, ?_, ?_⟩
  · rw [blk_cell hg]; exact key 0 (by omega)
  · rw [blk_cell hg]; exact key 1 (by omega)
  · rw [blk_cell hg]; exact key 2 (by omega)

theorem RefAt.kept (h : RefAt w S r lv c st fs) {T : Nat → Prop} {w' : World} (hm : Mod T w w') (hn : ∀ k, S k → ¬ T k) : RefAt w' S r lv c st fs where
  blk := blk_mod hm h.blk (hn _ h.ownR)
  calls := h.calls
  row := by
    obtain ⟨hl, hr⟩ := h.row
    refine ⟨hl, ?_⟩
    rcases hr with e | ⟨g, cap, cur, e, hb, hg, rest⟩
    · exact .inl e
    · exact .inr ⟨g, cap, cur, e, hb, blk_mod hm hg (hn _ (h.ownL g (by rw [e]; rfl))), rest⟩
  bytes := fun f hf => (h.bytes f hf).kept hm (fun k hk => hn _ (h.own f hf k hk))
  neR := h.neR
  apart := h.apart
  pair := h.pair
  ownR := h.ownR
  ownL := h.ownL
  own := h.own
  inS := fun k hk => Nat.lt_of_lt_of_le (h.inS k hk) hm.size
  abs := h.abs
  wf := h.wf
theorem RefIn.kept (h : RefIn w S r st) {T : Nat → Prop} {w' : World} (hm : Mod T w w') (hn : ∀ k, S k → ¬ T k) : RefIn w' S r st := by
  obtain ⟨lv, c, fs, h⟩ := h
  exact ⟨lv, c, fs, h.kept hm hn⟩
theorem RefAt.bigger (h : RefAt w S r lv c st fs) {S' : Nat → Prop} (hs : ∀ k, S k → S' k) (hl : ∀ k, S' k → k < w.heap.size) : RefAt w S' r lv c st fs :=
  { h with ownR := hs _ h.ownR, ownL := fun k hk => hs k (h.ownL k hk), own := fun f hf k hk => hs k (h.own f hf k hk), inS := hl }
theorem RefAt.plusSelf {w : World} {w' : World} (h : RefAt w' S r lv c st fs) : RefAt w' (Plus S w w') r lv c st fs :=
  h.bigger (fun _ hk => .inl hk) (fun k hk => hk.elim (h.inS k) (fun e => e.2))
theorem RefAt.plus {w w1 w' : World} (h : RefAt w' (Plus S w1 w') r lv c st fs) (hm : w.heap.size ≤ w1.heap.size) : RefAt w' (Plus S w w') r lv c st fs :=
  h.bigger (fun _ hk => hk.elim .inl (fun e => .inr ⟨Nat.le_trans hm e.1, e.2⟩)) (fun k hk => hk.elim (fun e => h.inS k (.inl e)) (fun e => e.2))

/-- Its place among the names; -1: it isn't there. -/
def idxF : List DFile → List UInt8 → Int → Int
  | [], _, _ => -1
  | f :: r, s, i => if f.name == s then i else idxF r s (i + 1)

theorem RefAt.setCalls (h : RefAt w S r lv c st fs) (c' : Int) (h0 : 0 ≤ st.calls) (hc : -1 ≤ c') (hc0 : 0 ≤ c') (h1 : c' ≤ 9223372036854775807) :
    RefAt (w.setCell ⟨r, 3, none⟩ (.int .i64 c')) S r lv c' { st with calls := c' } fs ∧ Mod S w (w.setCell ⟨r, 3, none⟩ (.int .i64 c')) := by
  have hm : Mod (fun k => k = r) w (w.setCell ⟨r, 3, none⟩ (.int .i64 c')) := (Mod.refl (fun k => k = r) w).setCell (p := ⟨r, 3, none⟩) (.inl rfl) _
  refine ⟨?_, hm.mono fun k _ e => by subst e; exact h.ownR⟩
  exact {
    blk := by rw [blk_set h.blk]; simp [h0, hc0]
    calls := fun _ => rfl
    row := by
      obtain ⟨hl, hr⟩ := h.row
      refine ⟨hl, ?_⟩
      rcases hr with e | ⟨g, cap, cur, e, hb, hg, rest⟩
      · exact .inl e
      · exact .inr ⟨g, cap, cur, e, hb, blk_mod hm hg (fun e' => h.neR (by rw [e]; exact congrArg some e')), rest⟩
    bytes := fun f hf => (h.bytes f hf).kept hm (fun k hk => (h.apart f hf k hk).1)
    neR := h.neR
    apart := h.apart
    pair := h.pair
    ownR := h.ownR
    ownL := h.ownL
    own := h.own
    inS := fun k hk => Nat.lt_of_lt_of_le (h.inS k hk) hm.size
    abs := h.abs
    wf := ⟨h.wf.room, h.wf.fits, h.wf.small, hc, h1, h.wf.sorted, h.wf.safe, h.wf.count, h.wf.names⟩ }

set_option maxHeartbeats 400000 in
theorem refStopped_any (h : RefAt w S r lv c st fs) :
    Calls Tryd.prog 35 #[.pointer (some ⟨r, 0, none⟩)] w fun e w' => e = .returned (.bool st.halts) ∧ (∃ c', RefAt w' S r lv c' st.tick fs) ∧ Mod S w w' ∧ w.heap.size = w'.heap.size := by
  obtain ⟨-, -, c2, c3, hfz⟩ := h.cells
  have hfz3 := hfz 3
  have b1 := h.wf.calls1
  by_cases h0 : 0 ≤ st.calls
  · have hc := h.calls h0
    subst hc
    rw [decide_eq_true h0] at c2
    by_cases hz : st.calls = 0
    · have e1 : Hid (st.halts = true) := by show _ = _; simp [DSt.halts, hz]
      have e2 : Hid (st.tick = st) := DSt.tick_halted e1.out
      have hb : (st.calls == 0) = true := by simpa using hz
      have H := Lib.hid h
      clear h hz h0 hfz
      go_enter Tryd.func35, Tryd.ntmps35
      go_wp2
      go_ret
      exact ⟨congrArg (fun b => Ending.returned (.bool b)) e1.out.symm, ⟨_, by rw [e2.out]; exact H.out⟩, Mod.refl _ _, rfl⟩
    · have e1 : Hid (st.halts = false) := by show _ = _; simp [DSt.halts, hz]
      have e2 : Hid (st.tick = { st with calls := st.calls - 1 }) := by show _ = _; simp [DSt.tick]; omega
      have hb : (st.calls == 0) = false := by simpa using hz
      obtain ⟨g1, g2⟩ := h.setCalls (st.calls - 1) h0 (by omega) (by omega) (by omega)
      have H := Lib.hid g1
      have hb0 : -1 ≤ st.calls := by omega
      clear h hz g1 hfz
      go_enter Tryd.func35, Tryd.ntmps35
      go_wp2
      go_ret
      exact ⟨congrArg (fun b => Ending.returned (.bool b)) e1.out.symm, ⟨_, by rw [e2.out]; exact H.out⟩, g2, by simp [World.setCell]⟩
  · rw [decide_eq_false h0] at c2
    have e1 : Hid (st.halts = false) := by show _ = _; simp [DSt.halts]; omega
    have e2 : Hid (st.tick = st) := by
      show _ = _
      have : ¬ 0 < st.calls := by omega
      simp [DSt.tick, this]
    have H := Lib.hid h
    clear h h0 hfz
    go_enter Tryd.func35, Tryd.ntmps35
    go_wp2
    go_ret
    exact ⟨congrArg (fun b => Ending.returned (.bool b)) e1.out.symm, ⟨_, by rw [e2.out]; exact H.out⟩, Mod.refl _ _, rfl⟩

end
end Go.Proofs.YtglkonhhknaomaaDoor
