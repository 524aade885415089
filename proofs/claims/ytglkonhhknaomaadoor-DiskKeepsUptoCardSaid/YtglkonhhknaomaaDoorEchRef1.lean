/- The walks of the document's disk's small calls: find, Free, Name, Stop. -/
import Derived.Test.YtglkonhhknaomaaDoorEchRef0
namespace Go.Proofs.YtglkonhhknaomaaDoor
open Go.RowKit Go.Maps

theorem idxF_drop {l : List DFile} (s : List UInt8) {k : Nat} {f : DFile} (hk : l[k]? = some f) : idxF (l.drop k) s (k : Int) = if f.name == s then (k : Int) else idxF (l.drop (k + 1)) s ((k + 1 : Nat) : Int) := by
  obtain ⟨h, rfl⟩ := List.getElem?_eq_some_iff.1 hk
  rw [List.drop_eq_getElem_cons h]; rfl

section
variable {w : World} {S : Nat → Prop} {r : Nat} {lv : Value} {c : Int} {st : DSt} {fs : List RefR}

theorem strV_eq (s : ByteArray) : Value.string s = strV s.data.toList := by
  unfold strV
  cases s
  rfl

theorem RefAt.len (h : RefAt w S r lv c st fs) : st.files.length = fs.length := by rw [h.abs, List.length_map]
theorem RefAt.get (h : RefAt w S r lv c st fs) (i : Nat) (hi : i < fs.length) : st.files[i]? = some fs[i].abs := by
  rw [h.abs, List.getElem?_map, List.getElem?_eq_getElem hi]; rfl

set_option maxHeartbeats 400000 in
theorem find_any (h : RefAt w S r lv c st fs) (l : List UInt8) :
    Calls Tryd.prog 36 #[.pointer (some ⟨r, 0, none⟩), .string ⟨l.toArray⟩] w fun e w' => e = .returned (.int .i64 (idxF st.files l 0)) ∧ w = w' := by
  obtain ⟨-, c1, -, -, -⟩ := h.cells
  have hcount := h.wf.count
  have hlen := h.len
  have HL := Lib.hid hlen
  have hfl : fs.length ≤ 4096 := by omega
  rcases h.form with ⟨rfl, rfl⟩ | ⟨g, cap, cur, rfl, hg, h1, -, -, h4⟩
  · have e1 : Hid (idxF st.files l 0 = -1) := by
      show _ = _
      have : st.files = [] := List.eq_nil_of_length_eq_zero hlen
      rw [this]; rfl
    clear h hcount hlen hfl
    go_enter Tryd.func36, Tryd.ntmps36
    go_wp2
    refine wp_loop_rounds 1 ?_
    rw [rounds_succ]
    go_wp2
    go_ret
    exact ⟨congrArg (fun n => Ending.returned (.int .i64 n)) e1.out.symm, rfl⟩
  · have HC := Lib.hid (row_cell hg h4)
    have HG := Lib.hid h.get
    have hI0 : Hid (idxF st.files l 0 = idxF (st.files.drop 0) l ((0 : Nat) : Int)) := rfl
    clear h hg h4 hcount hlen
    go_enter Tryd.func36, Tryd.ntmps36
    go_wp2
    go_loop [5] (fun i => ∃ k : Nat, k ≤ fs.length ∧ i = .int .i64 (k : Int) ∧ Hid (idxF st.files l 0 = idxF (st.files.drop k) l (k : Int))) (fun i => fs.length - (intOf i).toNat)
    case atStart => exact ⟨0, Nat.zero_le _, rfl, hI0⟩
    case round =>
      obtain ⟨k, hk, rfl, hI⟩ := hrel
      by_cases hlt : k < fs.length
      · obtain ⟨k0, -, -⟩ := HC.out k hlt
        have hd := idxF_drop l (HG.out k hlt)
        unfold strV at k0
        have hne : fs[k].abs.name = fs[k].name := rfl
        rw [hne] at hd
        generalize fs[k].name = nm at *
        by_cases hn : nm = l
        · have e1 : Hid (idxF st.files l 0 = k) := by
            show _ = _
            rw [hI.out, hd, hn]; simp
          subst hn
          clear hd hI hne
          go_wp2
          go_ret
          exact ⟨congrArg (fun n => Ending.returned (.int .i64 n)) e1.out.symm, rfl⟩
        · have e1 : Hid (idxF st.files l 0 = idxF (st.files.drop (k + 1)) l ((k + 1 : Nat) : Int)) := by
            show _ = _
            rw [hI.out, hd]; simp [hn]
          have hb : (nm == l) = false := by simpa using hn
          clear hd hI hne hn
          go_wp2
          go_round
          case rel => exact ⟨k + 1, by omega, by go_num, e1⟩
          case measure => simp [intOf]; omega
      · have e1 : Hid (idxF st.files l 0 = -1) := by
          show _ = _
          rw [hI.out, List.drop_of_length_le (by rw [HL.out]; omega)]
          rfl
        clear hI
        go_wp2
        go_ret
        exact ⟨congrArg (fun n => Ending.returned (.int .i64 n)) e1.out.symm, rfl⟩

/-- The lengths of the first files. -/
theorem total_snoc (l : List DFile) (k : Nat) (f : DFile) (hf : l[k]? = some f) : total (l.take (k + 1)) = total (l.take k) + f.data.length := by
  obtain ⟨h, rfl⟩ := List.getElem?_eq_some_iff.1 hf
  unfold total
  rw [List.take_succ_eq_append_getElem h, List.map_append, List.sum_append]
  simp

set_option maxHeartbeats 400000 in
theorem refFree_any (h : RefAt w S r lv c st fs) :
    Calls Tryd.prog 38 #[.pointer (some ⟨r, 0, none⟩)] w fun e w' => e = .returned (.int .i64 (st.free : Int)) ∧ w = w' := by
  obtain ⟨c0, c1, -, -, -⟩ := h.cells
  have hcount := h.wf.count
  have hroom := h.wf.room
  have hfit := h.wf.fits
  have hlen := h.len
  have HL := Lib.hid hlen
  have hfl : fs.length ≤ 4096 := by omega
  have hfree : Hid (st.free = st.room - total st.files) := rfl
  rcases h.form with ⟨rfl, rfl⟩ | ⟨g, cap, cur, rfl, hg, h1, -, -, h4⟩
  · have e1 : Hid (st.free = st.room) := by
      show _ = _
      have : st.files = [] := List.eq_nil_of_length_eq_zero hlen
      rw [hfree.out, this]; simp [total]
    clear h hcount hlen hfl hfit
    go_enter Tryd.func38, Tryd.ntmps38
    go_wp2
    refine wp_loop_rounds 1 ?_
    rw [rounds_succ]
    go_wp2
    go_ret
    exact ⟨congrArg (fun n : Nat => Ending.returned (.int .i64 (n : Int))) e1.out.symm, rfl⟩
  · have HC := Lib.hid (row_cell hg h4)
    have HG := Lib.hid h.get
    have HB := Lib.hid h.bytes
    have HFit := Lib.hid hfit
    clear h hg h4 hcount hlen hfit
    go_enter Tryd.func38, Tryd.ntmps38
    go_wp2
    go_loop [3, 4] (fun n i => ∃ k x : Nat, k ≤ fs.length ∧ i = .int .i64 (k : Int) ∧ n = .int .i64 (x : Int) ∧ x ≤ st.room ∧ Hid (x + total (st.files.take k) = st.room)) (fun _ i => fs.length - (intOf i).toNat)
    case atStart => exact ⟨0, st.room, Nat.zero_le _, rfl, rfl, Nat.le_refl _, by show _ + _ = _; simp [total]⟩
    case round =>
      obtain ⟨k, x, hk, rfl, rfl, hxr, hx⟩ := hrel
      by_cases hlt : k < fs.length
      · obtain ⟨-, k1, -⟩ := HC.out k hlt
        have hsn := total_snoc st.files k _ (HG.out k hlt)
        have hle : total (st.files.take (k + 1)) ≤ total st.files := total_take_le _ _
        have hdl : fs[k].abs.data.length = fs[k].data.length := rfl
        rw [hdl] at hsn
        have hform := (HB.out fs[k] (List.getElem_mem hlt)).form
        have hdx : fs[k].data.length ≤ x := by have := hx.out; have := HFit.out; omega
        have HS : Hid (x - fs[k].data.length + total (st.files.take (k + 1)) = st.room) := by show _ + _ = _; have := hx.out; omega
        have hxx : x - fs[k].data.length ≤ st.room := by omega
        generalize fs[k].data = dd at *
        generalize fs[k].v = vv at *
        clear hsn hle hdl hx
        rcases hform with ⟨rfl, rfl⟩ | ⟨g2, cap2, cur2, rfl, -⟩
        · go_wp2
          go_round
          case rel => exact ⟨k + 1, x, by omega, by go_num, rfl, by omega, HS⟩
          case measure => simp [intOf]; omega
        · go_wp2
          go_round
          case rel => exact ⟨k + 1, x - dd.length, by omega, by go_num, by simp only [Value.int.injEq, true_and]; omega, hxx, HS⟩
          case measure => simp [intOf]; omega
      · have e1 : Hid (st.free = x) := by
          show _ = _
          have := hx.out
          rw [List.take_of_length_le (by rw [HL.out]; omega)] at this
          rw [hfree.out]; omega
        clear hx
        go_wp2
        go_ret
        exact ⟨congrArg (fun n : Nat => Ending.returned (.int .i64 (n : Int))) e1.out.symm, rfl⟩

set_option maxHeartbeats 400000 in
theorem refStop_any (h : RefAt w S r lv c st fs) (n : Int) (hn : n ≤ 9223372036854775807) :
    Calls Tryd.prog 27 #[.pointer (some ⟨r, 0, none⟩), .int .i64 n] w fun e w' => e = .returned (.tuple #[]) ∧ RefAt w' S r lv n (st.stop n) fs ∧ Mod S w w' ∧ w.heap.size = w'.heap.size := by
  obtain ⟨-, -, c2, c3, hfz⟩ := h.cells
  have hfz2 := hfz 2
  have hfz3 := hfz 3
  have hm : Mod (fun k => k = r) w ((w.setCell ⟨r, 2, none⟩ (.bool (decide (0 ≤ n)))).setCell ⟨r, 3, none⟩ (.int .i64 n)) :=
    ((Mod.refl (fun k => k = r) w).setCell (p := ⟨r, 2, none⟩) (.inl rfl) _).setCell (p := ⟨r, 3, none⟩) (.inl rfl) _
  have hnew : RefAt ((w.setCell ⟨r, 2, none⟩ (.bool (decide (0 ≤ n)))).setCell ⟨r, 3, none⟩ (.int .i64 n)) S r lv n (st.stop n) fs := {
    blk := by
      rw [blk_set (blk_set h.blk 2 _) 3]
      have e : decide (0 ≤ (st.stop n).calls) = decide (0 ≤ n) := by
        unfold DSt.stop; dsimp only
        rw [decide_eq_decide]; omega
      rw [e]; rfl
    calls := fun h0 => by unfold DSt.stop at *; dsimp only at *; omega
    row := by
      obtain ⟨hl, hr⟩ := h.row
      refine ⟨hl, ?_⟩
      rcases hr with e | ⟨g, cap, cur, e, hb, hg, rest⟩
      · exact .inl e
      · exact .inr ⟨g, cap, cur, e, hb, blk_mod hm hg (fun e' => h.neR (by rw [e]; exact congrArg some e')), rest⟩
    bytes := fun f hf => (h.bytes f hf).kept hm (fun k hk => (h.apart f hf k hk).1)
    neR := h.neR
    apart := h.apart
    pair := h.pair
    ownR := h.ownR
    ownL := h.ownL
    own := h.own
    inS := fun k hk => Nat.lt_of_lt_of_le (h.inS k hk) hm.size
    abs := h.abs
    wf := ⟨h.wf.room, h.wf.fits, h.wf.small, by unfold DSt.stop; dsimp only; omega, by unfold DSt.stop; dsimp only; omega, h.wf.sorted, h.wf.safe, h.wf.count, h.wf.names⟩ }
  have hmS : Mod S w ((w.setCell ⟨r, 2, none⟩ (.bool (decide (0 ≤ n)))).setCell ⟨r, 3, none⟩ (.int .i64 n)) := hm.mono fun k _ e => by subst e; exact h.ownR
  have H := Lib.hid hnew
  clear h hnew hm hfz
  go_enter Tryd.func27, Tryd.ntmps27
  go_wp2
  go_end0
  exact ⟨rfl, H.out, hmS, by simp [World.setCell]⟩

theorem nameByte_iff (c : UInt8) : nameByte c = true ↔ (97 ≤ c.toNat ∧ c.toNat ≤ 122) ∨ (48 ≤ c.toNat ∧ c.toNat ≤ 57) ∨ c.toNat = 45 ∨ c.toNat = 46 := by
  unfold nameByte
  simp only [Bool.or_eq_true, Bool.and_eq_true, decide_eq_true_eq, beq_iff_eq, UInt8.le_iff_toNat_le, ← UInt8.toNat_inj]
  simp
  omega

set_option maxRecDepth 100000 in
set_option maxHeartbeats 1000000 in
theorem refName_any (l : List UInt8) (hs : l.length ≤ maxLen) (w : World) :
    Calls Tryd.prog 37 #[.string ⟨l.toArray⟩] w fun e w' => e = .returned (.bool (nameOk l)) ∧ w = w' := by
  unfold maxLen at hs
  go_enter Tryd.func37, Tryd.ntmps37
  go_wp2
  go_loop [3, 4] (fun i _ => ∃ k : Nat, k ≤ l.length ∧ i = .int .i64 (k : Int) ∧ Hid ((l.take k).all nameByte = true)) (fun i _ => l.length - (intOf i).toNat)
  case atStart => exact ⟨0, Nat.zero_le _, rfl, rfl⟩
  case round =>
    obtain ⟨k, hk, rfl, hI⟩ := hrel
    by_cases hlt : k < l.length
    · have H1 : Hid ((l.take (k + 1)).all nameByte = nameByte l[k]) := by
        show _ = _
        rw [List.take_succ_eq_append_getElem hlt, List.all_append, hI.out]; simp
      have H2 : Hid (nameByte l[k] = false → nameOk l = false) := fun h => by
        have : ¬ l.all nameByte = true := fun h' => by
          rw [List.all_eq_true] at h'
          rw [h' _ (List.getElem_mem hlt)] at h; cases h
        unfold nameOk
        simp only [Bool.not_eq_true] at this
        rw [this, Bool.and_false]
      have hbx : Hid (∀ h, (⟨l.toArray⟩ : ByteArray)[k]'h = l[k]) := fun _ => rfl
      clear hI
      go_wp2
      all_goals first
        | (go_ret
           refine ⟨?_, rfl⟩
           have e : nameByte l[k] = false := by
             rw [Bool.eq_false_iff, Ne, nameByte_iff, ← hbx.out (by simpa [ByteArray.size] using hlt)]
             simp only [Bool.not_eq_false', Bool.not_eq_true', decide_eq_true_eq, decide_eq_false_iff_not, beq_iff_eq, beq_eq_false_iff_ne, Bool.or_eq_true] at *
             omega
           rw [H2.out e]; rfl)
        | (have e : nameByte l[k] = true := by
             rw [nameByte_iff, ← hbx.out (by simpa [ByteArray.size] using hlt)]
             simp only [Bool.not_eq_false', Bool.not_eq_true', decide_eq_true_eq, decide_eq_false_iff_not, beq_iff_eq, beq_eq_false_iff_ne, Bool.or_eq_true] at *
             omega
           go_round
           case rel => exact ⟨k + 1, by omega, by go_num, by show _ = _; rw [H1.out, e]⟩
           case measure => simp [intOf]; omega)
    · have hall : Hid (nameOk l = (decide (0 < l.length) && decide (l.length ≤ 32))) := by
        show _ = _
        have := hI.out
        rw [List.take_of_length_le (by omega)] at this
        unfold nameOk; rw [this, Bool.and_true]
      clear hI
      go_wp2
      all_goals
        go_ret
        refine ⟨?_, rfl⟩
        rw [hall.out]
        first
          | (simp; omega)
          | (rename_i h0
             have e2 : decide ((l.length : Int) ≤ 32) = decide (l.length ≤ 32) := by rw [decide_eq_decide]; omega
             have e3 : decide (0 < l.length) = true := by simp; omega
             simp only [e2, e3, Bool.true_and]
             rfl)
          | (have e3 : decide (0 < l.length) = true := by simp; omega
             have e2 : decide ((l.length : Int) ≤ 32) = decide (l.length ≤ 32) := by rw [decide_eq_decide]; omega
             simp [e2, e3])

end
end Go.Proofs.YtglkonhhknaomaaDoor
