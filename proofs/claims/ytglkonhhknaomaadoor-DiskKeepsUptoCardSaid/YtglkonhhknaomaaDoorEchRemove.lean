/- The walk of disk's Remove. -/
import Derived.Test.YtglkonhhknaomaaDoorEchSorted
namespace Go.Proofs.YtglkonhhknaomaaDoor
open Go.RowKit Go.Maps Go.WideMaps Go.Sort

theorem compact_lt (ss : List (List UInt8)) : decide ((Lib.compact (ss.mergeSort fun x y => decide (x ≤ y))).length < ss.length) = !nodupB ss := by
  obtain ⟨zs, hz⟩ : ∃ zs, ss.mergeSort (fun x y => decide (x ≤ y)) = zs := ⟨_, rfl⟩
  have hp : zs.Perm ss := hz ▸ List.mergeSort_perm ss _
  have hs : zs.Pairwise fun a b => a ≤ b := by
    have := List.pairwise_mergeSort (le := fun x y : List UInt8 => decide (x ≤ y)) (fun a b c h1 h2 => by simp only [decide_eq_true_eq] at *; exact List.le_trans h1 h2) (fun a b => by simp only [Bool.or_eq_true, decide_eq_true_eq]; exact List.le_total a b) ss
    rw [hz] at this
    exact this.imp fun h => by simpa using h
  rw [hz, ← hp.length_eq]
  have hn : nodupB ss = decide zs.Nodup := by
    rw [Bool.eq_iff_iff, nodupB_iff, decide_eq_true_eq]
    exact hp.symm.nodup_iff
  rw [hn]
  clear hn hz hp
  have key : (Lib.compact zs).length < zs.length ↔ ¬ zs.Nodup := by
    have e1 : (Lib.compact zs).length = ((List.range zs.length).filter (Lib.keeps zs.toArray)).length := by simp [Lib.compact, Lib.compactUpTo]
    have e2 : ((List.range zs.length).filter (Lib.keeps zs.toArray)).length < (List.range zs.length).length ↔ ∃ j ∈ List.range zs.length, ¬ Lib.keeps zs.toArray j = true := List.length_filter_lt_length_iff_exists
    rw [List.length_range] at e2
    rw [e1, e2]
    constructor
    · rintro ⟨j, hj, hk⟩ hnd
      rw [List.mem_range] at hj
      simp only [Lib.keeps, decide_eq_true_eq, not_or, Classical.not_not] at hk
      obtain ⟨h0, he⟩ := hk
      have a1 : zs.toArray[j]! = zs[j] := by simp [hj]
      have a2 : zs.toArray[j - 1]! = zs[j - 1]'(by omega) := by simp [show j - 1 < zs.length by omega]
      rw [a1, a2] at he
      rw [List.Nodup, List.pairwise_iff_getElem] at hnd
      exact hnd (j - 1) j (by omega) hj (by omega) he.symm
    · intro hnd
      rw [List.Nodup, List.pairwise_iff_getElem] at hnd
      simp only [Classical.not_forall, ne_eq, Classical.not_not] at hnd
      obtain ⟨i, j, hi, hj, hij, he⟩ := hnd
      refine ⟨j, List.mem_range.2 hj, ?_⟩
      simp only [Lib.keeps, decide_eq_true_eq, not_or, Classical.not_not]
      refine ⟨by omega, ?_⟩
      have a1 : zs.toArray[j]! = zs[j] := by simp [hj]
      have a2 : zs.toArray[j - 1]! = zs[j - 1]'(by omega) := by simp [show j - 1 < zs.length by omega]
      rw [a1, a2]
      rw [List.pairwise_iff_getElem] at hs
      have h1 : zs[j - 1]'(by omega) ≤ zs[j] := hs (j - 1) j (by omega) hj (by omega)
      by_cases e : i = j - 1
      · subst e; exact he.symm
      · have h2 : zs[i] ≤ zs[j - 1]'(by omega) := hs i (j - 1) hi (by omega) (by omega)
        rw [he] at h2
        exact List.le_antisymm h2 h1
  by_cases h : zs.Nodup
  · simp [h, key]
  · simp [h, key]

section
variable {w : World} {S : Nat → Prop} {d mb : Nat} {st : DSt} {fs : List FileR}

set_option maxHeartbeats 400000 in
/-- slices.Compact of a new slice of strings: how long it becomes. -/
theorem compact_any (w : World) (B : Nat) (v : Value) (zs : List (List UInt8)) (h : NewStrs B w v zs) (hB : B ≤ w.heap.size) :
    Calls Tryd.prog 41 #[v] w fun e w' => ∃ a c, e = .returned (.slice a (Lib.compact zs).length c) ∧ Below B w w' := by
  obtain ⟨h0, h⟩ := h
  rcases h with ⟨rfl, hz⟩ | ⟨g, cap, cur, rfl, hg, hgb, h1, h2, h3, h4⟩
  · have : zs = [] := List.eq_nil_of_length_eq_zero hz
    subst this
    refine (Tryd.slices_Compact_string_empty none 0 w).mono ?_
    rintro e w' ⟨rfl, rfl⟩
    exact ⟨none, 0, rfl, Below.refl _ _⟩
  · have hH : Holds encStr w g 0 zs.toArray := holds_of_block hgb (by rw [Nat.mul_one] at h4; have r5 : List.take zs.length cur.toList = zs.map encStr := h4; simpa using r5)
    refine (Tryd.slices_Compact_string g 0 cap zs w hH (by unfold maxLen at h2; omega) h1).mono ?_
    rintro e w' ⟨rfl, q, rfl⟩
    refine ⟨_, _, rfl, ?_⟩
    refine ⟨rfl, rfl, rfl, by simp [putRow, mapBlock, Sort.ahead], fun k hk => ?_⟩
    have : g ≠ k := by omega
    simp [putRow, mapBlock, Sort.ahead, Array.getElem?_modify, this]

set_option maxRecDepth 100000 in
set_option maxHeartbeats 2000000 in
theorem remove_any (h : DiskAt w S d mb st fs) (v : Value) (ss : List (List UInt8)) (hss : StrsAt w v ss) (hn : ss.length * 16 ≤ 140737488355328) (hout : ∀ p n c, v = .slice (some p) n c → 0 < n → ¬ S p.block) :
    Calls Tryd.prog 22 #[.pointer (some ⟨d, 0, none⟩), v] w (DiskPost w S d mb (st.remove ss)) := by
  have HST := Lib.hid (stopped_any h)
  obtain ⟨p, cap, rfl, hl, hx, hc⟩ := hss
  cases hh : st.halts with
  | true =>
    have e1 : Hid (st.remove ss = (32, st)) := by show _ = _; simp [DSt.remove, hh]
    have HH := Lib.hid hh
    clear h hh hc hx hl hout hn
    go_enter Tryd.func22, Tryd.ntmps22
    go_wp2_with fail
    refine HST.out.mono ?_
    rintro e w1 ⟨rfl, hd, hm, -⟩
    have HD := Lib.hid hd
    clear hd HST
    rw [HH.out]
    go_wp2_with fail
    go_ret
    exact ⟨by rw [e1.out]; rfl, hm, fs, by rw [e1.out]; have := HD.out; rw [DSt.tick_halted HH.out] at this; exact plus_self this⟩
  | false =>
    have HH := Lib.hid hh
    have hss1 : ∀ w1, Mod S w w1 → StrsAt w1 (.slice p ss.length cap) ss := fun w1 hm => ⟨p, cap, rfl, hl, hx, fun i hi => by
      obtain ⟨b, off, rfl, hcell⟩ := hc i hi
      exact ⟨b, off, rfl, by rw [hm.cell (p := ⟨b, off + i, none⟩) (World.block_lt_of_cell? w _ hcell) (hout ⟨b, off, none⟩ _ _ rfl (show 0 < ss.length by omega))]; exact hcell⟩⟩
    have H1 := Lib.hid hss1
    have HX := Lib.hid hx
    have HWF := Lib.hid h.wf
    have hl' : ss.length ≤ 9223372036854775807 := hl
    have HN := Lib.hid hn
    have hcl := compact_lt ss
    have hml : (Lib.compact (ss.mergeSort fun x y => decide (x ≤ y))).length ≤ ss.length := by
      have := List.length_filter_le (Lib.keeps (ss.mergeSort fun x y => decide (x ≤ y)).toArray) (List.range (ss.mergeSort fun x y => decide (x ≤ y)).length)
      rw [List.length_range, List.length_mergeSort] at this
      simpa [Lib.compact, Lib.compactUpTo] using this
    have pre : ∀ {R : Ending → World → Prop}, True := fun {_} => trivial
    clear pre
    obtain ⟨m, hm0⟩ : ∃ m, (Lib.compact (ss.mergeSort fun x y => decide (x ≤ y))).length = m := ⟨_, rfl⟩
    rw [hm0] at hcl hml
    have HM := Lib.hid hm0
    have HCL := Lib.hid hcl
    clear hm0 hcl hss1 hx hc hl hout hn
    by_cases hbad : there st.files ss = false ∨ nodupB ss = false
    · have e1 : Hid (st.remove ss = (30, st.tick)) := DSt.remove_none hh hbad
      have HB := Lib.hid hbad
      clear h hh hbad
      go_enter Tryd.func22, Tryd.ntmps22
      go_wp2_with fail
      refine HST.out.mono ?_
      rintro e w1 ⟨rfl, hd, hm, -⟩
      have HD := Lib.hid hd
      clear hd HST
      rw [HH.out]
      go_wp2_with fail
      refine (values_any w1 p ss.length cap).mono ?_
      rintro e w2 ⟨rfl, rfl⟩
      go_wp2_with fail
      refine (sortedValues_any _ _ ss ((H1.out w1 hm).below ((Below.refl _ w1).alloc (Nat.le_refl _) _)) HN.out _ (by simp)).mono ?_
      rintro e w3 ⟨u, rfl, hu, hb3⟩
      have HC := Lib.hid (compact_any w3 _ u _ hu hb3.size)
      have hb13 : Below w1.heap.size w1 w3 := ((Below.refl _ w1).alloc (Nat.le_refl _) _).trans (hb3.mono (by simp))
      obtain ⟨a3, n3, c3, rfl⟩ : ∃ a n c, u = .slice a n c := by
        rcases hu.2 with ⟨rfl, _⟩ | ⟨g, cap, cur, rfl, _⟩
        · exact ⟨_, _, _, rfl⟩
        · exact ⟨_, _, _, rfl⟩
      clear hu hb3
      go_wp2_with fail
      refine HC.out.mono ?_
      rintro e w4 ⟨a4, c4, rfl, hb4⟩
      rw [HM.out]
      have hb14 : Below w1.heap.size w1 w4 := hb13.trans (hb4.mono (by simp))
      have hd4 := HD.out.kept (Mod.ofBelow hb14 Nil) (fun _ _ e => e)
      have HT := Lib.hid (there_any hd4 _ ss ((H1.out w1 hm).below hb14))
      have HD4 := Lib.hid hd4
      clear hd4 HC hb4 hb13
      go_wp2_with fail
      refine HT.out.mono ?_
      rintro e w5 ⟨rfl, hb5⟩
      have hm5 : Mod S w w5 := (hm.trans (Mod.ofBelow hb14 Nil) (fun k hk => hk.elim)).trans (Mod.ofBelow hb5 Nil) (fun k hk => hk.elim)
      have HD5 := Lib.hid (HD4.out.kept (Mod.ofBelow hb5 Nil) (fun _ _ e => e))
      clear HT hb5 hb14 HD4 HD
      cases ht : there st.files ss with
      | false =>
        rw [show there st.tick.files ss = false from ht]
        clear ht
        go_wp2_with fail
        go_ret
        exact ⟨by rw [e1.out]; rfl, hm5, fs, by rw [e1.out]; exact plus_self HD5.out⟩
      | true =>
        rw [show there st.tick.files ss = true from ht]
        have hlt : m < ss.length := by
          have h2 := HCL.out
          rcases HB.out with h | h
          · rw [ht] at h; cases h
          · rw [h] at h2; simpa using h2
        clear ht
        go_wp2_with fail
        go_ret
        exact ⟨by rw [e1.out]; rfl, hm5, fs, by rw [e1.out]; exact plus_self HD5.out⟩
    · have ht : there st.files ss = true := by simpa using fun e => hbad (.inl e)
      have hnd : nodupB ss = true := by simpa using fun e => hbad (.inr e)
      have e1 : Hid (st.remove ss = (0, { st.tick with files := removeF st.tick.files ss })) := DSt.remove_some hh ht hnd
      have hge : ss.length ≤ m := by
        have h2 := HCL.out
        rw [hnd] at h2
        simpa using h2
      have HT0 := Lib.hid ht
      clear h hh hbad ht hnd
      go_enter Tryd.func22, Tryd.ntmps22
      go_wp2_with fail
      refine HST.out.mono ?_
      rintro e w1 ⟨rfl, hd, hm, -⟩
      have HD := Lib.hid hd
      clear hd HST
      rw [HH.out]
      go_wp2_with fail
      refine (values_any w1 p ss.length cap).mono ?_
      rintro e w2 ⟨rfl, rfl⟩
      go_wp2_with fail
      refine (sortedValues_any _ _ ss ((H1.out w1 hm).below ((Below.refl _ w1).alloc (Nat.le_refl _) _)) HN.out _ (by simp)).mono ?_
      rintro e w3 ⟨u, rfl, hu, hb3⟩
      have HC := Lib.hid (compact_any w3 _ u _ hu hb3.size)
      have hb13 : Below w1.heap.size w1 w3 := ((Below.refl _ w1).alloc (Nat.le_refl _) _).trans (hb3.mono (by simp))
      obtain ⟨a3, n3, c3, rfl⟩ : ∃ a n c, u = .slice a n c := by
        rcases hu.2 with ⟨rfl, _⟩ | ⟨g, cap, cur, rfl, _⟩
        · exact ⟨_, _, _, rfl⟩
        · exact ⟨_, _, _, rfl⟩
      clear hu hb3
      go_wp2_with fail
      refine HC.out.mono ?_
      rintro e w4 ⟨a4, c4, rfl, hb4⟩
      rw [HM.out]
      have hb14 : Below w1.heap.size w1 w4 := hb13.trans (hb4.mono (by simp))
      have hd4 := HD.out.kept (Mod.ofBelow hb14 Nil) (fun _ _ e => e)
      have HT := Lib.hid (there_any hd4 _ ss ((H1.out w1 hm).below hb14))
      have HD4 := Lib.hid hd4
      clear hd4 HC hb4 hb13
      go_wp2_with fail
      refine HT.out.mono ?_
      rintro e w5 ⟨rfl, hb5⟩
      have hm5 : Mod S w w5 := (hm.trans (Mod.ofBelow hb14 Nil) (fun k hk => hk.elim)).trans (Mod.ofBelow hb5 Nil) (fun k hk => hk.elim)
      have HD5 := Lib.hid (HD4.out.kept (Mod.ofBelow hb5 Nil) (fun _ _ e => e))
      clear HT hb5 hb14 HD4 HD
      rw [show there st.tick.files ss = true from HT0.out]
      clear hm
      go_wp2_with fail
      go_loopw [7, 27] (fun _ i wl => ∃ k : Nat, k ≤ ss.length ∧ i = .int .i64 (k : Int) ∧ Mod S w wl ∧ Hid (∃ fs', DiskAt wl S d mb { st.tick with files := removeF st.tick.files (ss.take k) } fs')) (fun _ i _ => ss.length - (intOf i).toNat)
      case atStart =>
        refine ⟨0, Nat.zero_le _, rfl, hm5, ?_⟩
        refine Exists.intro fs ?_
        have e : removeF st.tick.files (ss.take 0) = st.tick.files := by rw [List.take_zero, removeF_nil]
        rw [e]
        exact HD5.out
      case round =>
        obtain ⟨k, hk, rfl, hml2, hdl⟩ := hrel
        by_cases hlt : k < ss.length
        · obtain ⟨fs', hd'⟩ := hdl.out
          obtain ⟨p', cap', ep, -, -, hc'⟩ := H1.out wr hml2
          cases ep
          obtain ⟨b, off, rfl, hcell⟩ := hc' k hlt
          obtain ⟨-, c1, -, -⟩ := hd'.cells
          have G1 := Lib.hid hd'
          have G5 : Hid (ss.take (k + 1) = ss.take k ++ [ss[k]]) := by show _ = _; rw [List.take_succ_eq_append_getElem hlt]
          have G6 := Lib.hid (HX.out ss[k] (List.getElem_mem hlt))
          generalize ss[k] = x at *
          unfold encS at hcell
          clear hd' hdl hc' hm5
          go_wp2_with (at_delete; refine wpList_delete_own _ rfl _ _ 50 9 rfl 61 keyed9 Tryd.underlying50 ptrR mb fs'.length (Dof fs') rfl G1.out.map _ _ rfl (key_string ⟨x.toArray⟩ G6.out) ?_; intro w7 hown7 ht7; have hm7 : Mod (fun k => k = mb) wr w7 := (Mod.refl _ wr).grown ht7.grown (fun k e => by cases e; exact .inl rfl); have G7 := Lib.hid hown7; clear hown7 ht7)
          go_roundw
          case rel =>
            have hd7 := G1.out.del x hm7 G7.out
            refine ⟨k + 1, by omega, by go_num, hml2.trans (hm7.mono (S' := S) (fun j _ e => by rw [e]; exact G1.out.ownM)) (fun i e => .inl e), ?_⟩
            refine Exists.intro (delR fs' x) ?_
            rw [G5.out, removeF_snoc]
            exact hd7
          case measure => simp [intOf]; omega
        · have hk' : k = ss.length := by omega
          have G4 := Lib.hid hdl
          have HK := Lib.hid hk'
          clear hdl hk'
          go_wp2_with fail
          go_ret
          obtain ⟨fs', hd'⟩ := G4.out
          rw [HK.out, List.take_length] at hd'
          exact ⟨by rw [e1.out]; rfl, hml2, fs', by rw [e1.out]; exact plus_self hd'⟩

end

end Go.Proofs.YtglkonhhknaomaaDoor
