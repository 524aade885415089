/- The walk of the document's disk's Remove. -/
import Derived.Test.YtglkonhhknaomaaDoorEchRefRen
import Derived.Test.YtglkonhhknaomaaDoorEchRemove
namespace Go.Proofs.YtglkonhhknaomaaDoor
open Go.RowKit Go.Maps

section
variable {w : World} {S : Nat → Prop} {r : Nat} {lv : Value} {c : Int} {st : DSt} {fs : List RefR}

theorem findF_removeF (l : List DFile) (ss : List (List UInt8)) (s : List UInt8) (h : s ∉ ss) : findF (removeF l ss) s = findF l s := by
  unfold findF removeF
  rw [List.find?_filter]
  congr 1
  funext f
  by_cases e : f.name = s
  · subst e; simp [h]
  · simp [e]
theorem nodup_not {ss : List (List UInt8)} {j k : Nat} (hj : j < k) (hk : k < ss.length) (h : ss[j] = ss[k]) : nodupB ss = false := by
  cases e : nodupB ss with
  | false => rfl
  | true =>
    rw [nodupB_iff] at e
    have := List.pairwise_iff_getElem.1 e j k (by omega) hk hj
    exact absurd h this
theorem nodup_snoc {ss : List (List UInt8)} {k : Nat} (hk : k < ss.length) (h : (ss.take k).Nodup) (hn : ∀ j (_ : j < k) (hl : j < ss.length), ss[j] ≠ ss[k]) : (ss.take (k + 1)).Nodup := by
  rw [List.take_succ_eq_append_getElem hk]
  refine List.nodup_append.2 ⟨h, by simp, fun x hx y hy => ?_⟩
  simp only [List.mem_singleton] at hy
  subst hy
  obtain ⟨i, hi, rfl⟩ := List.getElem_of_mem hx
  rw [List.getElem_take]
  rw [List.length_take] at hi
  exact hn i (by omega) (by omega)
theorem nodup_mem {ss : List (List UInt8)} {k : Nat} (hk : k < ss.length) (h : ss.Nodup) : ss[k] ∉ ss.take k := fun hx => by
  obtain ⟨i, hi, e⟩ := List.getElem_of_mem hx
  rw [List.getElem_take] at e
  rw [List.length_take] at hi
  exact List.pairwise_iff_getElem.1 h i k (by omega) hk (by omega) e

set_option maxRecDepth 100000 in
set_option maxHeartbeats 2000000 in
theorem refRemove_any (h : RefAt w S r lv c st fs) (v : Value) (ss : List (List UInt8)) (hs : ∀ w', Mod S w w' → StrsAt w' v ss) :
    Calls Tryd.prog 23 #[.pointer (some ⟨r, 0, none⟩), v] w (RefPost w S r (st.remove ss)) := by
  have HST := Lib.hid (refStopped_any h)
  have H := Lib.hid h
  obtain ⟨p, cap, rfl, hl, hx, -⟩ := hs w (Mod.refl S w)
  have HS := Lib.hid hs
  have HX := Lib.hid hx
  unfold maxLen at hl
  clear h hs hx
  go_enter Tryd.func23, Tryd.ntmps23
  go_wp2_with fail
  refine HST.out.mono ?_
  rintro e w1 ⟨rfl, ⟨c', hd⟩, hm, hsz⟩
  clear HST
  cases hh : st.halts with
  | true =>
    have e1 : Hid (st.remove ss = (32, st.tick)) := by show _ = _; rw [DSt.tick_halted hh]; simp [DSt.remove, hh]
    have HD := Lib.hid hd
    clear hd
    go_wp2_with fail
    go_ret
    exact ⟨by rw [e1.out]; rfl, hm, _, _, _, by rw [e1.out]; exact HD.out.plusSelf⟩
  | false =>
    have HD := Lib.hid hd
    have HH := Lib.hid hh
    have HM := Lib.hid hm
    clear hd hh hm
    go_wp2_with fail
    go_loopw [5] (fun i wl => ∃ k : Nat, k ≤ ss.length ∧ i = .int .i64 (k : Int) ∧ Hid (Mod Nil w1 wl) ∧ Hid (there st.tick.files (ss.take k) = true) ∧ Hid ((ss.take k).Nodup)) (fun i _ => ss.length - (intOf i).toNat)
    case atStart => exact ⟨0, Nat.zero_le _, rfl, Mod.refl Nil w1, rfl, List.nodup_nil⟩
    case round =>
      obtain ⟨k, hk, rfl, hml, ht, hnd⟩ := hrel
      have hmw := HM.out.trans hml.out (fun _ e => e.elim)
      have hdw := HD.out.kept hml.out (fun _ _ e => e)
      by_cases hlt : k < ss.length
      · obtain ⟨p', cap', ep, -, -, hc'⟩ := HS.out wr hmw
        cases ep
        obtain ⟨b, off, rfl, hcell⟩ := hc' k hlt
        clear hc'
        unfold encS at hcell
        have HF := Lib.hid (find_any hdw ss[k])
        have HMW := Lib.hid hmw
        have HDW := Lib.hid hdw
        rcases hdw.cases ss[k] with ⟨hf, hi⟩ | ⟨a, ha, hi, hnm, hf⟩
        · have e1 : Hid (st.remove ss = (30, st.tick)) := DSt.remove_none HH.out (.inl (there_no st.files ss k hlt hf))
          rw [hi] at HF
          clear hf hi ht hmw hdw
          go_wp2_with fail
          refine HF.out.mono ?_
          rintro e w2 ⟨rfl, rfl⟩
          go_wp2_with fail
          go_ret
          exact ⟨by rw [e1.out]; rfl, HMW.out, _, _, _, by rw [e1.out]; exact HDW.out.plusSelf⟩
        · have ht1 : Hid (there st.tick.files (ss.take (k + 1)) = true) := by show _ = _; rw [there_take _ _ _ hlt, ht.out, hf]; rfl
          rw [hi] at HF
          clear hf hi ht hnm hmw hdw
          go_wp2_with fail
          refine HF.out.mono ?_
          rintro e w2 ⟨rfl, rfl⟩
          clear hcell
          go_wp2_with fail
          go_loopw [6] (fun i wl => ∃ j : Nat, j ≤ k ∧ i = .int .i64 (j : Int) ∧ Hid (Mod Nil w1 wl) ∧ Hid (∀ i (_ : i < j) (hl : i < ss.length), ss[i] ≠ ss[k])) (fun i _ => k - (intOf i).toNat)
          case atStart => exact ⟨0, Nat.zero_le _, rfl, hml, fun i hi => by omega⟩
          case round =>
            obtain ⟨j, hj, rfl, hmj, hne⟩ := hrel
            by_cases hjk : j < k
            · have hmj' := HM.out.trans hmj.out (fun _ e => e.elim)
              obtain ⟨p', cap', ep, -, -, hc'⟩ := HS.out _ hmj'
              have ep2 := (Value.slice.injEq _ _ _ _ _ _).mp ep
              obtain ⟨ep3, -, -⟩ := ep2
              subst ep3
              have hjl : j < ss.length := by omega
              obtain ⟨b2, off2, eb, hcj⟩ := hc' j hjl
              obtain ⟨b3, off3, eb3, hck⟩ := hc' k hlt
              cases eb
              cases eb3
              clear hc' ep
              unfold encS at hcj hck
              have HMJ := Lib.hid hmj'
              have HDJ := Lib.hid (HD.out.kept hmj.out (fun _ _ e => e))
              by_cases heq : ss[j] = ss[k]
              · have e1 : Hid (st.remove ss = (30, st.tick)) := DSt.remove_none HH.out (.inr (nodup_not hjk hlt heq))
                have hb' : (ss[j] == ss[k]) = true := by simpa using heq
                clear hne heq hmj'
                go_wp2_with fail
                go_region
                all_goals
                  go_wp2_with fail
                  go_ret
                  exact ⟨by rw [e1.out]; rfl, HMJ.out.drew, _, _, _, by rw [e1.out]; exact (HDJ.out.kept ((Mod.refl Nil _).drew) (fun _ _ e => e)).plusSelf⟩
              · have hb' : (ss[j] == ss[k]) = false := by simpa using heq
                have hne1 : Hid (∀ i (_ : i < j + 1) (hl : i < ss.length), ss[i] ≠ ss[k]) := fun i hi hl => by
                  by_cases e : i = j
                  · subst e; exact heq
                  · exact hne.out i (by omega) hl
                clear hne heq hmj'
                go_wp2_with fail
                go_region
                all_goals
                  go_wp2_with fail
                  go_roundw
                  case rel => exact ⟨j + 1, by omega, by go_num, hmj.out.drew, hne1⟩
                  case measure => simp [intOf]; omega
            · have hnd1 : Hid ((ss.take (k + 1)).Nodup) := nodup_snoc hlt hnd.out (fun i hi hl => hne.out i (by omega) hl)
              clear hne
              go_wp2_with fail
              go_roundw
              case rel => exact ⟨k + 1, by omega, by go_num, hmj, ht1, hnd1⟩
              case measure => simp [intOf]; omega
      · have hk' : k = ss.length := by omega
        have hta : Hid (there st.files ss = true) := by
          show _ = _
          have := ht.out
          rw [List.take_of_length_le (by omega)] at this
          exact this
        have hnd1 : Hid (ss.Nodup) := by
          have := hnd.out
          rw [List.take_of_length_le (by omega)] at this
          exact this
        have e1 : Hid (st.remove ss = (0, { st.tick with files := removeF st.tick.files ss })) := DSt.remove_some HH.out hta.out ((nodupB_iff _).2 hnd1.out)
        have HMW := Lib.hid hmw
        have HDW := Lib.hid hdw
        clear ht hnd hmw hdw hk'
        go_wp2_with fail
        go_loopw [7] (fun i wl => ∃ k : Nat, k ≤ ss.length ∧ i = .int .i64 (k : Int) ∧ Mod S w wl ∧ Hid (∃ lv' fs', RefAt wl (Plus S w wl) r lv' c' { st.tick with files := removeF st.tick.files (ss.take k) } fs')) (fun i _ => ss.length - (intOf i).toNat)
        case atStart =>
          refine ⟨0, Nat.zero_le _, rfl, HMW.out, lv, fs, ?_⟩
          have e : removeF st.tick.files (ss.take 0) = st.tick.files := by rw [List.take_zero, removeF_nil]
          rw [e]
          exact HDW.out.plusSelf
        case round =>
          obtain ⟨k, hk, rfl, hml, hdl⟩ := hrel
          by_cases hlt : k < ss.length
          · obtain ⟨lv', fs', hd'⟩ := hdl.out
            obtain ⟨p', cap', ep, -, -, hc'⟩ := HS.out _ hml
            cases ep
            obtain ⟨b, off, rfl, hcell⟩ := hc' k hlt
            clear hc'
            unfold encS at hcell
            have HF := Lib.hid (find_any hd' ss[k])
            rcases hd'.cases ss[k] with ⟨hf, hi⟩ | ⟨a, ha, hi, hnm, hf⟩
            · exfalso
              obtain ⟨f0, hf0⟩ := there_get hta.out hlt
              have hff := findF_removeF st.files (ss.take k) ss[k] (nodup_mem hlt hnd1.out)
              rw [hf0] at hff
              rw [show findF (removeF st.files (ss.take k)) ss[k] = none from hf] at hff
              cases hff
            · rw [hi] at HF
              have G5 : ss.take (k + 1) = ss.take k ++ [ss[k]] := by rw [List.take_succ_eq_append_getElem hlt]
              have HE : Hid (removeF st.tick.files (ss.take (k + 1)) = delF (removeF st.tick.files (ss.take k)) fs'[a].name) := by show _ = _; rw [G5, removeF_snoc, hnm]
              have HD' := Lib.hid hd'
              generalize ss[k] = x at *
              clear hd' hf hi hnm hdl G5
              go_wp2_with fail
              refine HF.out.mono ?_
              rintro e w2 ⟨rfl, rfl⟩
              go_wp2_with fail
              refine (refTake_any HD'.out a ha).mono ?_
              rintro e w3 ⟨rfl, hm3, -, -, lv3, hd3⟩
              have HD3 := Lib.hid hd3
              clear hd3
              go_wp2_with fail
              go_roundw
              case rel =>
                refine ⟨k + 1, by omega, by go_num, hml.trans hm3 (fun i e => e.elim .inl (fun e => .inr e.1)), ?_⟩
                refine Exists.intro lv3 (Exists.intro (fs'.take a ++ fs'.drop (a + 1)) ?_)
                rw [HE.out]
                exact HD3.out.plus2 hml.size hm3.size
              case measure => simp [intOf]; omega
          · have hk' : k = ss.length := by omega
            have G4 := Lib.hid hdl
            have HK := Lib.hid hk'
            clear hdl hk'
            go_wp2_with fail
            go_ret
            obtain ⟨lv', fs', hd'⟩ := G4.out
            rw [HK.out, List.take_length] at hd'
            exact ⟨by rw [e1.out]; rfl, hml, _, _, _, by rw [e1.out]; exact hd'⟩

end
end Go.Proofs.YtglkonhhknaomaaDoor
