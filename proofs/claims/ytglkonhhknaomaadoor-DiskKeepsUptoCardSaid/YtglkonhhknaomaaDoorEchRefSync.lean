/- The walk of the document's disk's Sync. -/
import Derived.Test.YtglkonhhknaomaaDoorEchRefCut
import Derived.Test.YtglkonhhknaomaaDoorEchSync
namespace Go.Proofs.YtglkonhhknaomaaDoor
open Go.RowKit Go.Maps

section
variable {w : World} {S : Nat → Prop} {r : Nat} {lv : Value} {c : Int} {st : DSt} {fs : List RefR}

theorem there_take (l : List DFile) (ss : List (List UInt8)) (k : Nat) (hk : k < ss.length) : there l (ss.take (k + 1)) = (there l (ss.take k) && (findF l ss[k]).isSome) := by
  unfold there
  rw [List.take_succ_eq_append_getElem hk, List.all_append]; simp
theorem there_no (l : List DFile) (ss : List (List UInt8)) (k : Nat) (hk : k < ss.length) (h : findF l ss[k] = none) : there l ss = false := by
  cases e : there l ss with
  | false => rfl
  | true =>
    unfold there at e
    rw [List.all_eq_true] at e
    have := e _ (List.getElem_mem hk)
    rw [h] at this; cases this

set_option maxRecDepth 100000 in
set_option maxHeartbeats 2000000 in
theorem refSync_any (h : RefAt w S r lv c st fs) (v : Value) (ss : List (List UInt8)) (hs : ∀ w', Mod S w w' → StrsAt w' v ss) :
    Calls Tryd.prog 19 #[.pointer (some ⟨r, 0, none⟩), v] w (RefPost w S r (st.sync ss)) := by
  have HST := Lib.hid (refStopped_any h)
  have H := Lib.hid h
  obtain ⟨p, cap, rfl, hl, hx, -⟩ := hs w (Mod.refl S w)
  have HS := Lib.hid hs
  have HX := Lib.hid hx
  unfold maxLen at hl
  clear h hs hx
  go_enter Tryd.func19, Tryd.ntmps19
  go_wp2_with fail
  refine HST.out.mono ?_
  rintro e w1 ⟨rfl, ⟨c', hd⟩, hm, hsz⟩
  clear HST
  cases hh : st.halts with
  | true =>
    have e1 : Hid (st.sync ss = (32, st.tick)) := by show _ = _; rw [DSt.tick_halted hh]; simp [DSt.sync, hh]
    have HD := Lib.hid hd
    clear hd
    go_wp2_with fail
    go_ret
    exact ⟨by rw [e1.out]; rfl, hm, _, _, _, by rw [e1.out]; exact HD.out.plusSelf⟩
  | false =>
    have HD := Lib.hid hd
    have HH := Lib.hid hh
    have HM := Lib.hid hm
    clear hd hh hm
    go_wp2_with fail
    go_loop [5] (fun i => ∃ k : Nat, k ≤ ss.length ∧ i = .int .i64 (k : Int) ∧ Hid (there st.tick.files (ss.take k) = true)) (fun i => ss.length - (intOf i).toNat)
    case atStart => exact ⟨0, Nat.zero_le _, rfl, rfl⟩
    case round =>
      obtain ⟨k, hk, rfl, ht⟩ := hrel
      by_cases hlt : k < ss.length
      · obtain ⟨p', cap', ep, -, -, hc'⟩ := HS.out w1 HM.out
        cases ep
        obtain ⟨b, off, rfl, hcell⟩ := hc' k hlt
        clear hc'
        unfold encS at hcell
        have HF := Lib.hid (find_any HD.out ss[k])
        rcases HD.out.cases ss[k] with ⟨hf, hi⟩ | ⟨a, ha, hi, hnm, hf⟩
        · have e1 : Hid (st.sync ss = (30, st.tick)) := DSt.sync_none HH.out (there_no st.files ss k hlt hf)
          rw [hi] at HF
          clear hf hi ht
          go_wp2_with fail
          refine HF.out.mono ?_
          rintro e w2 ⟨rfl, rfl⟩
          go_wp2_with fail
          go_ret
          exact ⟨by rw [e1.out]; rfl, HM.out, _, _, _, by rw [e1.out]; exact HD.out.plusSelf⟩
        · have ht1 : Hid (there st.tick.files (ss.take (k + 1)) = true) := by show _ = _; rw [there_take _ _ _ hlt, ht.out, hf]; rfl
          rw [hi] at HF
          clear hf hi ht hnm
          go_wp2_with fail
          refine HF.out.mono ?_
          rintro e w2 ⟨rfl, rfl⟩
          go_wp2_with fail
          go_round
          case rel => exact ⟨k + 1, by omega, by go_num, ht1⟩
          case measure => simp [intOf]; omega
      · have hta : Hid (there st.files ss = true) := by
          show _ = _
          have := ht.out
          rw [List.take_of_length_le (by omega)] at this
          exact this
        have e1 : Hid (st.sync ss = (0, { st.tick with files := syncF st.tick.files ss })) := DSt.sync_some HH.out hta.out
        clear ht
        go_wp2_with fail
        go_loopw [6] (fun i wl => ∃ k : Nat, k ≤ ss.length ∧ i = .int .i64 (k : Int) ∧ Mod S w wl ∧ Hid (∃ fs', RefAt wl S r lv c' { st.tick with files := syncF st.tick.files (ss.take k) } fs')) (fun i _ => ss.length - (intOf i).toNat)
        case atStart =>
          refine ⟨0, Nat.zero_le _, rfl, HM.out, fs, ?_⟩
          have e : syncF st.tick.files (ss.take 0) = st.tick.files := by rw [List.take_zero, syncF_nil]
          rw [e]
          exact HD.out
        case round =>
          obtain ⟨k, hk, rfl, hml, hdl⟩ := hrel
          by_cases hlt : k < ss.length
          · obtain ⟨fs', hd'⟩ := hdl.out
            obtain ⟨p', cap', ep, -, -, hc'⟩ := HS.out wr hml
            cases ep
            obtain ⟨b, off, rfl, hcell⟩ := hc' k hlt
            clear hc'
            unfold encS at hcell
            have HF := Lib.hid (find_any hd' ss[k])
            rcases hd'.cases ss[k] with ⟨hf, hi⟩ | ⟨a, ha, hi, hnm, hf⟩
            · exfalso
              obtain ⟨f0, hf0⟩ := there_get hta.out hlt
              have hff : findF (syncF st.tick.files (ss.take k)) ss[k] = some (if (ss.take k).contains f0.name then { f0 with safe := f0.data.length } else f0) := by
                rw [findF_syncF, DSt.tick_files, hf0]; rfl
              rw [show findF (syncF st.tick.files (ss.take k)) ss[k] = none from hf] at hff
              cases hff
            · rw [hi] at HF
              obtain ⟨g, cap2, hlv, hcap, hglt, hgr, c0, c1, c2, fz⟩ := hd'.slice ha
              have hlv2 := Lib.hid hlv
              obtain ⟨-, d1, -, -, -⟩ := hd'.cells
              rw [hlv] at d1
              have fz2 := fz (a * 3 + 2)
              have hfl : fs'.length ≤ 4096 := by have := hd'.wf.count; have := hd'.len; omega
              have HB := hd'.bytes fs'[a] (List.getElem_mem ha)
              obtain ⟨va, vn, vc, hv⟩ := HB.slice
              have hvn : vn = fs'[a].data.length := by
                rcases HB.form with ⟨e, hz⟩ | ⟨g, cap, cur, e, -, h5, -⟩
                · rw [hv] at e; cases e; rw [hz]; rfl
                · rw [hv] at e; cases e; rfl
              subst hvn
              rw [hv] at c1
              have hsmall : fs'[a].data.length ≤ 1099511627776 := by
                have h1 := total_mem (l := syncF st.tick.files (ss.take k)) (f := fs'[a].abs) (by rw [show syncF st.tick.files (ss.take k) = fs'.map RefR.abs from hd'.abs]; exact List.mem_map.2 ⟨_, List.getElem_mem _, rfl⟩)
                have h2 := hd'.wf.small
                have : fs'[a].abs.data.length = fs'[a].data.length := rfl
                have h3 : total (syncF st.tick.files (ss.take k)) ≤ 1099511627776 := h2
                omega
              have G5 : ss.take (k + 1) = ss.take k ++ [ss[k]] := by rw [List.take_succ_eq_append_getElem hlt]
              have e9 := syncF_snoc st.tick.files (ss.take k) ss[k]
              have hwf := H.out.wf.tick.sync (ss.take (k + 1))
              rw [G5, e9, ← hnm] at hwf
              obtain ⟨q1, q2⟩ := hd'.setSafe ha hlv fs'[a].data.length (F := fun f => { f with safe := f.data.length }) rfl hwf
              have Q1 := Lib.hid q1
              have Q2 := Lib.hid q2
              have HE : Hid (syncF st.tick.files (ss.take (k + 1)) = chgF (syncF st.tick.files (ss.take k)) fs'[a].name fun f => { f with safe := f.data.length }) := by show _ = _; rw [G5, e9, hnm]
              generalize ss[k] = x at *
              clear hd' hf hi fz hnm hwf hv q1 q2 hdl HB G5 e9 hlv c0
              go_wp2_with fail
              refine HF.out.mono ?_
              rintro e w2 ⟨rfl, rfl⟩
              go_wp2_with fail
              go_region
              all_goals
                go_wp2_with fail
                go_roundw
                case rel =>
                  refine ⟨k + 1, by omega, by go_num, hml.trans Q2.out.drew (fun _ e => .inl e), ?_⟩
                  refine Exists.intro (fs'.set a { fs'[a] with safe := fs'[a].data.length }) ?_
                  rw [HE.out]
                  exact Q1.out.kept ((Mod.refl Nil (wr.setCell ⟨g, a * 3 + 2, none⟩ (.int .i64 (fs'[a].data.length : Int)))).drew) (fun _ _ e => e)
                case measure => simp [intOf]; omega
          · have hk' : k = ss.length := by omega
            have G4 := Lib.hid hdl
            have HK := Lib.hid hk'
            clear hdl hk'
            go_wp2_with fail
            go_ret
            obtain ⟨fs', hd'⟩ := G4.out
            rw [HK.out, List.take_length] at hd'
            exact ⟨by rw [e1.out]; rfl, hml, _, _, _, by rw [e1.out]; exact hd'.plusSelf⟩

end
end Go.Proofs.YtglkonhhknaomaaDoor
