/- The walk of the document's disk's Append. -/
import Derived.Test.YtglkonhhknaomaaDoorEchRefCrash
import Derived.Deep.RegionLaw
import Derived.Deep.AppendLies
namespace Go.Proofs.YtglkonhhknaomaaDoor
open Go.RowKit Go.Maps

theorem step_append_run {P : Program} {w : World} {ops : Array Oper} {o : Oper} {a : Act} {K : Act → World → Prop} {Q : Exit → Act → World → Prop} {E : Prop} (hgd : o.guard = none) (s x : Operand) (t : TypeId)
    (ho : o.op = .call { callee := .builtin .append, args := #[s, x], argTypes := #[t, t] }) (v u : Value) (hs : a.eval s = v) (hx : a.eval x = u) {v' : Value} {w' : World}
    (hr : (Builtin.append_ #[t, t] o.type #[v, u]).run P w = .ok v' w') (h : K (a.put o.dst v') w') :
    if Region.wanted o (yielded ops a.tmps) = true then Oper.wp P o a w K Q else E := by
  have hw : Region.wanted o (yielded ops a.tmps) = true := by simp [Region.wanted, hgd]
  rw [if_pos hw]
  exact Lib.wp_append_run_sl w s x t ho v u hs hx hr h

theorem flat_take (bs : List (List UInt8)) (k : Nat) (hk : k < bs.length) : (bs.take (k + 1)).flatten = (bs.take k).flatten ++ bs[k] := by
  rw [List.take_succ_eq_append_getElem hk, List.flatten_append]; simp
theorem flat_take_le (bs : List (List UInt8)) (k : Nat) : (bs.take k).flatten.length ≤ bs.flatten.length := by
  conv => rhs; rw [← List.take_append_drop k bs, List.flatten_append, List.length_append]
  omega

theorem findF_ins_self {f : DFile} : ∀ {l : List DFile}, (∀ g ∈ l, g.name ≠ f.name) → findF (insF f l) f.name = some f
  | [], _ => by simp [insF, findF]
  | x :: r, h => by
    unfold insF
    by_cases hb : bytesBefore f.name x.name = true
    · rw [if_pos hb]; simp [findF]
    · rw [if_neg hb]
      show List.find? _ (x :: insF f r) = _
      rw [List.find?_cons_of_neg (by simpa using h x (by simp))]
      exact findF_ins_self (fun g hg => h g (by simp [hg]))
theorem chgF_ins {f : DFile} {F : DFile → DFile} (hF : (F f).name = f.name) : ∀ {l : List DFile}, (∀ g ∈ l, g.name ≠ f.name) → chgF (insF f l) f.name F = insF (F f) l
  | [], _ => by simp [insF, chgF]
  | x :: r, h => by
    have hid : ∀ l : List DFile, (∀ g ∈ l, g.name ≠ f.name) → chgF l f.name F = l := fun l h => by
      unfold chgF
      conv => rhs; rw [← List.map_id l]
      refine List.map_congr_left fun g hg => ?_
      rw [if_neg (by simpa using h g hg)]; rfl
    unfold insF
    rw [hF]
    by_cases hb : bytesBefore f.name x.name = true
    · rw [if_pos hb, if_pos hb]
      show (if f.name == f.name then F f else f) :: chgF (x :: r) f.name F = _
      rw [hid (x :: r) h]; simp
    · rw [if_neg hb, if_neg hb]
      show (if x.name == f.name then F x else x) :: chgF (insF f r) f.name F = _
      rw [chgF_ins hF (fun g hg => h g (by simp [hg])), if_neg (by simpa using h x (by simp))]

section
variable {w : World} {S : Nat → Prop} {r : Nat} {lv : Value} {c : Int} {st : DSt} {fs : List RefR}

set_option maxRecDepth 100000 in
set_option maxHeartbeats 2000000 in
theorem refAppend_any (h : RefAt w S r lv c st fs) (s : List UInt8) (hl : s.length ≤ maxLen) (bv : Value) (bs : List (List UInt8)) (hs : ∀ w', Mod S w w' → ListAt w' bv bs) (hout : ∀ a n c, bv = .slice (some a) n c → 0 < n → ¬ S a.block) (hsum : total st.files + bs.flatten.length ≤ 1099511627776) :
    Calls Tryd.prog 18 #[.pointer (some ⟨r, 0, none⟩), .string ⟨s.toArray⟩, bv] w (RefPost w S r (st.append s bs.flatten)) := by
  have HST := Lib.hid (refStopped_any h)
  have H := Lib.hid h
  have HS := Lib.hid hs
  have HL := Lib.hid hl
  have HO := Lib.hid hout
  have hb : bs.flatten.length ≤ 1099511627776 := by omega
  have HSUM := Lib.hid hsum
  obtain ⟨p, cap, rfl, hcapl, hlen, -⟩ := hs w (Mod.refl S w)
  clear h hs hl hout hsum
  go_enter Tryd.func18, Tryd.ntmps18
  go_wp2_with fail
  refine HST.out.mono ?_
  rintro e w1 ⟨rfl, ⟨c', hd⟩, hm, hsz⟩
  clear HST
  cases hh : st.halts with
  | true =>
    have e1 : Hid (st.append s bs.flatten = (32, st.tick)) := by show _ = _; rw [DSt.tick_halted hh]; simp [DSt.append, hh]
    have HD := Lib.hid hd
    clear hd
    go_wp2_with fail
    go_ret
    exact ⟨by rw [e1.out]; rfl, hm, _, _, _, by rw [e1.out]; exact HD.out.plusSelf⟩
  | false =>
    have HD := Lib.hid hd
    have HH := Lib.hid hh
    have HM := Lib.hid hm
    clear hd hh hm
    go_wp2_with fail
    go_loop [7, 8] (fun n i => ∃ k x : Nat, k ≤ bs.length ∧ i = .int .i64 (k : Int) ∧ n = .int .i64 (x : Int) ∧ x ≤ 1099511627776 ∧ Hid (x = (bs.take k).flatten.length)) (fun _ i => bs.length - (intOf i).toNat)
    case atStart => exact ⟨0, 0, Nat.zero_le _, rfl, rfl, Nat.zero_le _, rfl⟩
    case round =>
      obtain ⟨k, x, hk, rfl, rfl, hx, hxe⟩ := hrel
      by_cases hlt : k < bs.length
      · obtain ⟨p', cap', ep, -, -, hc'⟩ := HS.out w1 HM.out
        cases ep
        obtain ⟨b, off, u, rfl, hcell, hu⟩ := hc' k hlt
        obtain ⟨q, cq, rfl, -, -, -⟩ := hu
        have e1 := congrArg List.length (flat_take bs k hlt)
        rw [List.length_append] at e1
        have e2 := flat_take_le bs (k + 1)
        have h1 : bs[k].length ≤ 1099511627776 := by omega
        have hxe' := hxe.out
        have h2 : x + bs[k].length ≤ 1099511627776 := by omega
        have E1 : Hid (x + bs[k].length = (bs.take (k + 1)).flatten.length) := by show _ = _; omega
        clear hc' e1 e2 hxe hxe'
        go_wp2_with fail
        go_round
        case rel => exact ⟨k + 1, x + bs[k].length, by omega, by go_num, by go_num, h2, E1⟩
        case measure => simp [intOf]; omega
      · have hk' : k = bs.length := by omega
        subst hk'
        have HXE : Hid (x = bs.flatten.length) := by show _ = _; rw [hxe.out, List.take_length]
        clear hxe
        have HF := Lib.hid (find_any HD.out s)
        have HNO := Lib.hid (refName_any s HL.out w1)
        clear hlt hk
        go_wp2_with fail
        refine HF.out.mono ?_
        rintro e w2 ⟨rfl, rfl⟩
        go_wp2_with fail
        refine HNO.out.mono ?_
        rintro e w2 ⟨rfl, rfl⟩
        clear HNO
        cases hn : nameOk s with
        | false =>
          have e1 : Hid (st.append s bs.flatten = (30, st.tick)) := by show _ = _; simp [DSt.append, HH.out, hn]
          clear hn
          go_wp2_with fail
          go_ret
          exact ⟨by rw [e1.out]; rfl, HM.out, _, _, _, by rw [e1.out]; exact HD.out.plusSelf⟩
        | true =>
          have HFR := Lib.hid (refFree_any HD.out)
          have HN := Lib.hid hn
          clear hn
          go_wp2_with fail
          refine HFR.out.mono ?_
          rintro e w2 ⟨rfl, rfl⟩
          clear HFR
          have hfl : fs.length ≤ 4096 := by have := HD.out.wf.count; have := HD.out.len; omega
          by_cases hfull : st.tick.free < x
          · have e1 : Hid (st.append s bs.flatten = (31, st.tick)) := DSt.append_full HH.out HN.out (by rw [← HXE.out]; exact hfull)
            go_wp2_with fail
            go_ret
            exact ⟨by rw [e1.out]; rfl, HM.out, _, _, _, by rw [e1.out]; exact HD.out.plusSelf⟩
          · rcases HD.out.cases s with ⟨hf, hi⟩ | ⟨a, ha, hi, hnm, hf⟩
            · have hdel := delF_none hf
              have hput : ∀ hc : st.tick.files.length < 4096, DSt.wf { st.tick with files := insF ⟨s, [], 0⟩ st.tick.files } := fun hc => by
                have := HD.out.wf.put (f := ⟨s, [], 0⟩) (Nat.le_refl _) (nameOk_len HN.out) (by rw [hdel]; exact HD.out.wf.fits) (by rw [hdel]; exact HD.out.wf.small) (by rw [hdel]; exact hc)
                rw [hdel] at this
                exact this
              obtain ⟨-, d1, -, -, -⟩ := HD.out.cells
              obtain ⟨la, lc, hlv⟩ : ∃ la lc, lv = .slice la fs.length lc := by
                rcases HD.out.form with ⟨e, hz⟩ | ⟨g, cap, cur, e, -⟩
                · exact ⟨none, 0, by rw [e, hz]; rfl⟩
                · exact ⟨_, _, e⟩
              rw [hlv] at d1
              have hlen := HD.out.len
              rw [hi]
              by_cases hmany : 4096 ≤ fs.length
              · have e1 : Hid (st.append s bs.flatten = (31, st.tick)) := DSt.append_many HH.out HN.out hf (by have : st.tick.files.length = fs.length := hlen; rw [DSt.tick_files] at this; omega)
                clear hdel hput hf hi hlv hlen
                go_wp2_with fail
                go_ret
                exact ⟨by rw [e1.out]; rfl, HM.out, _, _, _, by rw [e1.out]; exact HD.out.plusSelf⟩
              · have hw1 := hput (by omega)
                have HADD := Lib.hid (refAdd_any HD.out ⟨s, .slice none 0 0, [], 0⟩ (findF_map_none (by rw [← HD.out.abs]; exact hf)) hw1 ⟨rfl, .inl ⟨rfl, rfl⟩⟩ (fun k e => nomatch e))
                have e1 : Hid (st.append s bs.flatten = (0, { st.tick with files := chgF (insF ⟨s, [], 0⟩ st.tick.files) s fun f => { f with data := f.data ++ bs.flatten } })) := by
                  show _ = _
                  rw [DSt.append_new HH.out HN.out (by rw [← HXE.out]; omega) hf (by have : st.tick.files.length = fs.length := hlen; rw [DSt.tick_files] at this; omega), hdel]
                  have := chgF_ins (f := ⟨s, [], 0⟩) (F := fun f => { f with data := f.data ++ bs.flatten }) rfl (l := st.tick.files) (by rw [HD.out.abs]; intro g hg; obtain ⟨f, hf2, rfl⟩ := List.mem_map.1 hg; exact findF_map_none (by rw [← HD.out.abs]; exact hf) f hf2)
                  dsimp only at this
                  rw [this]
                  rfl
                have ROOM0 : total st.tick.files + bs.flatten.length ≤ st.tick.room := by
                  have h1 : st.tick.free = st.tick.room - total st.tick.files := rfl
                  have h2 := HD.out.wf.fits
                  have h3 := HXE.out
                  omega
                have htot : total (insF ⟨s, [], 0⟩ st.tick.files) = total st.tick.files := by rw [total_ins]; rfl
                obtain ⟨st1, hst1⟩ : ∃ st1 : DSt, DSt.mk st.tick.room st.tick.calls (insF ⟨s, [], 0⟩ st.tick.files) = st1 := ⟨_, rfl⟩
                have ROOM : Hid (total st1.files + bs.flatten.length ≤ st1.room) := by show _ ≤ _; rw [← hst1]; show total (insF ⟨s, [], 0⟩ st.tick.files) + _ ≤ _; rw [htot]; exact ROOM0
                have SMALLX : Hid (total st1.files + bs.flatten.length ≤ 1099511627776) := by show _ ≤ _; rw [← hst1]; show total (insF ⟨s, [], 0⟩ st.tick.files) + _ ≤ _; rw [htot]; exact HSUM.out
                have hfx : findF st1.files s = some ⟨s, [], 0⟩ := by rw [← hst1]; exact findF_ins_self (by rw [HD.out.abs]; intro g hg; obtain ⟨f, hf2, rfl⟩ := List.mem_map.1 hg; exact findF_map_none (by rw [← HD.out.abs]; exact hf) f hf2)
                have e1' : Hid (st.append s bs.flatten = (0, { st1 with files := chgF st1.files s fun f => { f with data := f.data ++ bs.flatten } })) := by show _ = _; rw [e1.out, ← hst1]
                have WFX : Hid st1.wf := by show st1.wf; rw [← hst1]; exact hw1
                have HST1 := Lib.hid hst1
                have SAFEX : Hid ((0 : Nat) ≤ ([] : List UInt8).length) := Nat.le_refl _
                have FX := Lib.hid hfx
                clear e1
                have e1 := Lib.hid e1'.out
                clear e1' hdel hput hf hi hlv hlen ROOM0 htot hst1 hw1 hfx
                go_wp2_with fail
                refine HADD.out.mono ?_
                rintro e w2 ⟨rfl, hm2, lv2, fs2, hd2⟩
                replace hd2 : RefAt w2 (Plus S w1 w2) r lv2 c' st1 fs2 := by rw [← HST1.out]; exact hd2
                clear HADD d1
                have HF2 := Lib.hid (find_any hd2 s)
                rcases hd2.cases s with ⟨hf2, hi2⟩ | ⟨a, ha, hi2, hnm2, hf2⟩
                · rw [FX.out] at hf2; cases hf2
                · rw [hi2] at HF2
                  have HNX := Lib.hid hnm2
                  have MX : Hid (Mod S w w2) := HM.out.trans hm2 (fun i e => .inl e)
                  have HDX := Lib.hid (hd2.plus HM.out.size)
                  clear hd2 hm2 hi2 hf2 hnm2
                  go_wp2_with fail
                  refine HF2.out.mono ?_
                  rintro e w3 ⟨rfl, rfl⟩
                  go_wp2_with fail
                  have hck : ∀ k, k ≤ bs.length → DSt.wf { st1 with files := chgF st1.files s fun f => { f with data := f.data ++ (bs.take k).flatten } } := fun k hk => by
                    have h1 := flat_take_le bs k
                    have h3 := WFX.out.fits
                    have h4 : total st1.files + bs.flatten.length ≤ st1.room := ROOM.out
                    have h5 := SAFEX.out
                    have h6 : total st1.files + bs.flatten.length ≤ 1099511627776 := SMALLX.out
                    refine WFX.out.chg FX.out (fun _ => rfl) ?_ ?_ ?_
                    · show 0 ≤ (([] : List UInt8) ++ (bs.take k).flatten).length
                      rw [List.length_append]; omega
                    · show total st1.files + (([] : List UInt8) ++ (bs.take k).flatten).length ≤ st1.room + ([] : List UInt8).length
                      rw [List.length_append]; omega
                    · show total st1.files + (([] : List UInt8) ++ (bs.take k).flatten).length ≤ 1099511627776 + ([] : List UInt8).length
                      rw [List.length_append]; omega
                  have HCK := Lib.hid hck
                  clear hck
                  go_loopw [10] (fun i wl => ∃ k : Nat, k ≤ bs.length ∧ i = .int .i64 (k : Int) ∧ Hid (Mod S w wl) ∧ Hid (∃ fs', ∃ ha : a < fs'.length, fs'[a].name = s ∧ RefAt wl (Plus S w wl) r lv2 c' { st1 with files := chgF st1.files s fun f => { f with data := f.data ++ (bs.take k).flatten } } fs')) (fun i _ => bs.length - (intOf i).toNat)
                  case atStart =>
                    refine ⟨0, Nat.zero_le _, rfl, MX.out, fs2, ha, HNX.out, ?_⟩
                    have e : (chgF st1.files s fun f => { f with data := f.data ++ (bs.take 0).flatten }) = st1.files := by
                      unfold chgF
                      conv => rhs; rw [← List.map_id st1.files]
                      refine List.map_congr_left fun f _ => ?_
                      simp
                    rw [e]
                    exact HDX.out
                  case round =>
                    obtain ⟨k, hk, rfl, hml, hdl⟩ := hrel
                    by_cases hlt : k < bs.length
                    · obtain ⟨fs', ha', hna, hd0⟩ := hdl.out
                      obtain ⟨p', cap', ep, -, -, hc'⟩ := HS.out wr hml.out
                      cases ep
                      obtain ⟨b, off, u, rfl, hcell, hu⟩ := hc' k hlt
                      have hbS : ¬ S b := HO.out _ _ _ rfl (by omega)
                      have hblt : b < w.heap.size := by
                        obtain ⟨p2, cap2, ep2, -, -, hc2⟩ := HS.out w (Mod.refl S w)
                        cases ep2
                        obtain ⟨b2, off2, u2, e2, hcell2, -⟩ := hc2 k hlt
                        cases e2
                        exact World.block_lt_of_cell? w _ hcell2
                      have hd' := hd0.kept ((Mod.refl Nil wr).drew) (fun _ _ e => e)
                      have hu' := hu.kept ((Mod.refl Nil wr).drew) (fun _ _ e => e)
                      obtain ⟨g, cap2, hlv, hcap, hglt, hgr, k0, k1, k2, fz⟩ := hd'.slice ha'
                      obtain ⟨-, d1, -, -, -⟩ := hd'.cells
                      have hHB := hd'.bytes fs'[a] (List.getElem_mem ha')
                      have hfl2 : fs'.length ≤ 4096 := by have := hd'.wf.count; have := hd'.len; omega
                      have hdl1 : fs'[a].data.length + bs[k].length ≤ 140737488355328 := by
                        have h1 := total_mem (f := fs'[a].abs) (l := chgF st1.files s fun f => { f with data := f.data ++ (bs.take k).flatten }) (by rw [show (chgF st1.files s fun f => { f with data := f.data ++ (bs.take k).flatten }) = fs'.map RefR.abs from hd'.abs]; exact List.mem_map.2 ⟨_, List.getElem_mem ha', rfl⟩)
                        have h2 : total (chgF st1.files s fun f => { f with data := f.data ++ (bs.take k).flatten }) ≤ 1099511627776 := hd'.wf.small
                        have h3 : fs'[a].abs.data.length = fs'[a].data.length := rfl
                        have h4 := congrArg List.length (flat_take bs k hlt)
                        rw [List.length_append] at h4
                        have h5 := flat_take_le bs (k + 1)
                        have h6 := HXE.out
                        omega
                      obtain ⟨v', w2, hrun, hown, hgrow, hself, -⟩ := append_bytes wr.drew 42 hHB hu' hdl1
                      obtain ⟨a6, n6, c6, rfl⟩ := hown.slice
                      obtain ⟨a5, n5, c5, hv5⟩ := hHB.slice
                      have hmo : Mod (fun i => fs'[a].v.ownBlock = some i) wr.drew w2 := (Mod.refl (fun i => fs'[a].v.ownBlock = some i) wr.drew).grown hgrow (fun i e => .inl e)
                      have hEf : (chgF st1.files s fun f => { f with data := f.data ++ (bs.take (k + 1)).flatten }) = chgF (chgF st1.files s fun f => { f with data := f.data ++ (bs.take k).flatten }) fs'[a].name fun f => { f with data := f.data ++ bs[k] } := by
                        rw [hna, chgF_chgF _ _ (fun f : DFile => { f with data := f.data ++ (bs.take k).flatten }) _ (fun _ => rfl)]
                        congr 1
                        funext f
                        rw [flat_take bs k hlt, List.append_assoc]
                      have hE := congrArg (fun l => ({ st1 with files := l } : DSt)) hEf
                      try dsimp only at hE
                      have hwfk := HCK.out (k + 1) (by omega)
                      have hwfk := hE ▸ hwfk
                      obtain ⟨q1, q2⟩ := hd'.setB ha' hlv hmo (.slice a6 n6 c6) (fs'[a].data ++ bs[k]) hown (fun i e => by
                        rcases hself with e2 | e2
                        · exact .inl (by rw [← e2]; exact e)
                        · rw [e2] at e; cases e; exact .inr (Nat.le_refl _)) (F := fun f => { f with data := f.data ++ bs[k] }) rfl hwfk
                      have hrlt := hd'.inS r hd'.ownR
                      have hnr : fs'[a].v.ownBlock ≠ some r := fun e => (hd'.apart _ (List.getElem_mem ha') r e).1 rfl
                      have hng : fs'[a].v.ownBlock ≠ some g := fun e => (hd'.apart _ (List.getElem_mem ha') g e).2 (by rw [hlv]; rfl)
                      have hnb : fs'[a].v.ownBlock ≠ some b := fun e => by
                        rcases hd'.own _ (List.getElem_mem ha') b e with e1 | e1
                        · exact hbS e1
                        · have := e1.1; omega
                      have hbw : b < wr.drew.heap.size := Nat.lt_of_lt_of_le hblt hml.out.size
                      have x1 : w2.cell? ⟨r, 1, none⟩ = wr.drew.cell? ⟨r, 1, none⟩ := hmo.cell (p := ⟨r, 1, none⟩) hrlt hnr
                      have x2 : w2.cell? ⟨g, a * 3 + 1, none⟩ = wr.drew.cell? ⟨g, a * 3 + 1, none⟩ := hmo.cell (p := ⟨g, a * 3 + 1, none⟩) hglt hng
                      have x3 : w2.cell? ⟨b, off + k, none⟩ = wr.drew.cell? ⟨b, off + k, none⟩ := hmo.cell (p := ⟨b, off + k, none⟩) hbw hnb
                      have x4 : w2.frozen? ⟨g, a * 3 + 1, none⟩ = false := by
                        rw [hmo.frozen (p := ⟨g, a * 3 + 1, none⟩) hglt hng]; exact fz _
                      obtain ⟨q, cq, rfl, -, -, -⟩ := hu
                      have d1' : wr.cell? ⟨r, 1, none⟩ = some (.slice (some ⟨g, 0, none⟩) fs'.length cap2) := by rw [← hlv]; exact d1
                      have k1' : wr.cell? ⟨g, a * 3 + 1, none⟩ = some (.slice a5 n5 c5) := by rw [← hv5]; exact k1
                      have y1 : w2.cell? ⟨r, 1, none⟩ = some (.slice (some ⟨g, 0, none⟩) fs'.length cap2) := by rw [x1]; exact d1'
                      have y2 : w2.cell? ⟨g, a * 3 + 1, none⟩ = some (.slice a5 n5 c5) := by rw [x2]; exact k1'
                      have y3 : w2.cell? ⟨b, off + k, none⟩ = some (.slice q bs[k].length cq) := by rw [x3]; exact hcell
                      rw [hv5] at hrun
                      have R1 := Lib.hid hrun
                      have Q1 := Lib.hid q1
                      have Q2 := Lib.hid q2
                      have HE := Lib.hid hE
                      have HNA := Lib.hid hna
                      have a0 : (0 : Int) ≤ (a : Int) := Int.natCast_nonneg _
                      have a1 : (a : Int) < (fs'.length : Int) := by omega
                      have b0 : (0 : Int) ≤ (k : Int) := Int.natCast_nonneg _
                      have b1 : (k : Int) < (bs.length : Int) := by omega
                      clear hd0 hd' hu' hdl hc' hlv k0 k1 k2 fz d1 hHB hown hgrow hself hmo hE hwfk q1 q2 hrun x1 x2 x3 hnr hng hnb hv5 hna hdl1
                      go_wp2_with fail
                      go_region_law (refine step_append_run rfl _ _ _ rfl _ _ rfl rfl R1.out ?_)
                      all_goals
                        go_wp2_with fail
                        go_roundw
                        case rel =>
                          have hq := Q1.out.plus2 (a := w) (b := wr.drew) hml.out.size Q2.out.size
                          rw [← HE.out] at hq
                          refine ⟨k + 1, by omega, by go_num, hml.out.drew.trans Q2.out (fun i e => e.elim .inl (fun e => .inr e.1)), Exists.intro (fs'.set a { fs'[a] with v := .slice a6 n6 c6, data := fs'[a].data ++ bs[k] }) (Exists.intro (by rw [List.length_set]; exact ha') ⟨?_, ?_⟩)⟩
                          · rw [List.getElem_set_self]; exact HNA.out
                          · exact hq
                        case measure => simp [intOf]; omega
                    · have hk' : k = bs.length := by omega
                      have G4 := Lib.hid hdl
                      have HK := Lib.hid hk'
                      clear hdl hk'
                      go_wp2_with fail
                      go_ret
                      obtain ⟨fs', ha', hna, hd'⟩ := G4.out
                      rw [HK.out, List.take_length] at hd'
                      exact ⟨by rw [e1.out]; rfl, hml.out, lv2, c', fs', by rw [e1.out]; exact hd'⟩
            · have e1 : Hid (st.append s bs.flatten = (0, { st.tick with files := chgF st.tick.files s fun f => { f with data := f.data ++ bs.flatten } })) := DSt.append_old HH.out HN.out (by rw [← HXE.out]; omega) hf
              have WFX := Lib.hid HD.out.wf
              have ROOM : Hid (total st.tick.files + bs.flatten.length ≤ st.tick.room) := by
                show _ ≤ _
                have h1 : st.tick.free = st.tick.room - total st.tick.files := rfl
                have h2 := HD.out.wf.fits
                have h3 := HXE.out
                omega
              have FX := Lib.hid hf
              have SAFEX : Hid (fs[a].abs.safe ≤ fs[a].abs.data.length) := HD.out.wf.safe _ (by rw [HD.out.abs]; exact List.mem_map.2 ⟨_, List.getElem_mem ha, rfl⟩)
              have SMALLX : Hid (total st.tick.files + bs.flatten.length ≤ 1099511627776) := HSUM.out
              have HNX := Lib.hid hnm
              have HDX := Lib.hid (RefAt.plusSelf (w := w) HD.out)
              rw [hi]
              clear hf hi hnm
              go_wp2_with fail
              have hck : ∀ k, k ≤ bs.length → DSt.wf { st.tick with files := chgF st.tick.files s fun f => { f with data := f.data ++ (bs.take k).flatten } } := fun k hk => by
                have h1 := flat_take_le bs k
                have h3 := WFX.out.fits
                have h4 : total st.tick.files + bs.flatten.length ≤ st.tick.room := ROOM.out
                have h5 := SAFEX.out
                have h6 : total st.tick.files + bs.flatten.length ≤ 1099511627776 := SMALLX.out
                refine WFX.out.chg FX.out (fun _ => rfl) ?_ ?_ ?_
                · show fs[a].abs.safe ≤ (fs[a].abs.data ++ (bs.take k).flatten).length
                  rw [List.length_append]; omega
                · show total st.tick.files + (fs[a].abs.data ++ (bs.take k).flatten).length ≤ st.tick.room + fs[a].abs.data.length
                  rw [List.length_append]; omega
                · show total st.tick.files + (fs[a].abs.data ++ (bs.take k).flatten).length ≤ 1099511627776 + fs[a].abs.data.length
                  rw [List.length_append]; omega
              have HCK := Lib.hid hck
              clear hck
              go_loopw [10] (fun i wl => ∃ k : Nat, k ≤ bs.length ∧ i = .int .i64 (k : Int) ∧ Hid (Mod S w wl) ∧ Hid (∃ fs', ∃ ha : a < fs'.length, fs'[a].name = s ∧ RefAt wl (Plus S w wl) r lv c' { st.tick with files := chgF st.tick.files s fun f => { f with data := f.data ++ (bs.take k).flatten } } fs')) (fun i _ => bs.length - (intOf i).toNat)
              case atStart =>
                refine ⟨0, Nat.zero_le _, rfl, HM.out, fs, ha, HNX.out, ?_⟩
                have e : (chgF st.tick.files s fun f => { f with data := f.data ++ (bs.take 0).flatten }) = st.tick.files := by
                  unfold chgF
                  conv => rhs; rw [← List.map_id st.tick.files]
                  refine List.map_congr_left fun f _ => ?_
                  simp
                rw [e]
                exact HDX.out
              case round =>
                obtain ⟨k, hk, rfl, hml, hdl⟩ := hrel
                by_cases hlt : k < bs.length
                · obtain ⟨fs', ha', hna, hd0⟩ := hdl.out
                  obtain ⟨p', cap', ep, -, -, hc'⟩ := HS.out wr hml.out
                  cases ep
                  obtain ⟨b, off, u, rfl, hcell, hu⟩ := hc' k hlt
                  have hbS : ¬ S b := HO.out _ _ _ rfl (by omega)
                  have hblt : b < w.heap.size := by
                    obtain ⟨p2, cap2, ep2, -, -, hc2⟩ := HS.out w (Mod.refl S w)
                    cases ep2
                    obtain ⟨b2, off2, u2, e2, hcell2, -⟩ := hc2 k hlt
                    cases e2
                    exact World.block_lt_of_cell? w _ hcell2
                  have hd' := hd0.kept ((Mod.refl Nil wr).drew) (fun _ _ e => e)
                  have hu' := hu.kept ((Mod.refl Nil wr).drew) (fun _ _ e => e)
                  obtain ⟨g, cap2, hlv, hcap, hglt, hgr, k0, k1, k2, fz⟩ := hd'.slice ha'
                  obtain ⟨-, d1, -, -, -⟩ := hd'.cells
                  have hHB := hd'.bytes fs'[a] (List.getElem_mem ha')
                  have hfl2 : fs'.length ≤ 4096 := by have := hd'.wf.count; have := hd'.len; omega
                  have hdl1 : fs'[a].data.length + bs[k].length ≤ 140737488355328 := by
                    have h1 := total_mem (f := fs'[a].abs) (l := chgF st.tick.files s fun f => { f with data := f.data ++ (bs.take k).flatten }) (by rw [show (chgF st.tick.files s fun f => { f with data := f.data ++ (bs.take k).flatten }) = fs'.map RefR.abs from hd'.abs]; exact List.mem_map.2 ⟨_, List.getElem_mem ha', rfl⟩)
                    have h2 : total (chgF st.tick.files s fun f => { f with data := f.data ++ (bs.take k).flatten }) ≤ 1099511627776 := hd'.wf.small
                    have h3 : fs'[a].abs.data.length = fs'[a].data.length := rfl
                    have h4 := congrArg List.length (flat_take bs k hlt)
                    rw [List.length_append] at h4
                    have h5 := flat_take_le bs (k + 1)
                    have h6 := HXE.out
                    omega
                  obtain ⟨v', w2, hrun, hown, hgrow, hself, -⟩ := append_bytes wr.drew 42 hHB hu' hdl1
                  obtain ⟨a6, n6, c6, rfl⟩ := hown.slice
                  obtain ⟨a5, n5, c5, hv5⟩ := hHB.slice
                  have hmo : Mod (fun i => fs'[a].v.ownBlock = some i) wr.drew w2 := (Mod.refl (fun i => fs'[a].v.ownBlock = some i) wr.drew).grown hgrow (fun i e => .inl e)
                  have hEf : (chgF st.tick.files s fun f => { f with data := f.data ++ (bs.take (k + 1)).flatten }) = chgF (chgF st.tick.files s fun f => { f with data := f.data ++ (bs.take k).flatten }) fs'[a].name fun f => { f with data := f.data ++ bs[k] } := by
                    rw [hna, chgF_chgF _ _ (fun f : DFile => { f with data := f.data ++ (bs.take k).flatten }) _ (fun _ => rfl)]
                    congr 1
                    funext f
                    rw [flat_take bs k hlt, List.append_assoc]
                  have hE := congrArg (fun l => ({ st.tick with files := l } : DSt)) hEf
                  try dsimp only at hE
                  have hwfk := HCK.out (k + 1) (by omega)
                  have hwfk := hE ▸ hwfk
                  obtain ⟨q1, q2⟩ := hd'.setB ha' hlv hmo (.slice a6 n6 c6) (fs'[a].data ++ bs[k]) hown (fun i e => by
                    rcases hself with e2 | e2
                    · exact .inl (by rw [← e2]; exact e)
                    · rw [e2] at e; cases e; exact .inr (Nat.le_refl _)) (F := fun f => { f with data := f.data ++ bs[k] }) rfl hwfk
                  have hrlt := hd'.inS r hd'.ownR
                  have hnr : fs'[a].v.ownBlock ≠ some r := fun e => (hd'.apart _ (List.getElem_mem ha') r e).1 rfl
                  have hng : fs'[a].v.ownBlock ≠ some g := fun e => (hd'.apart _ (List.getElem_mem ha') g e).2 (by rw [hlv]; rfl)
                  have hnb : fs'[a].v.ownBlock ≠ some b := fun e => by
                    rcases hd'.own _ (List.getElem_mem ha') b e with e1 | e1
                    · exact hbS e1
                    · have := e1.1; omega
                  have hbw : b < wr.drew.heap.size := Nat.lt_of_lt_of_le hblt hml.out.size
                  have x1 : w2.cell? ⟨r, 1, none⟩ = wr.drew.cell? ⟨r, 1, none⟩ := hmo.cell (p := ⟨r, 1, none⟩) hrlt hnr
                  have x2 : w2.cell? ⟨g, a * 3 + 1, none⟩ = wr.drew.cell? ⟨g, a * 3 + 1, none⟩ := hmo.cell (p := ⟨g, a * 3 + 1, none⟩) hglt hng
                  have x3 : w2.cell? ⟨b, off + k, none⟩ = wr.drew.cell? ⟨b, off + k, none⟩ := hmo.cell (p := ⟨b, off + k, none⟩) hbw hnb
                  have x4 : w2.frozen? ⟨g, a * 3 + 1, none⟩ = false := by
                    rw [hmo.frozen (p := ⟨g, a * 3 + 1, none⟩) hglt hng]; exact fz _
                  obtain ⟨q, cq, rfl, -, -, -⟩ := hu
                  have d1' : wr.cell? ⟨r, 1, none⟩ = some (.slice (some ⟨g, 0, none⟩) fs'.length cap2) := by rw [← hlv]; exact d1
                  have k1' : wr.cell? ⟨g, a * 3 + 1, none⟩ = some (.slice a5 n5 c5) := by rw [← hv5]; exact k1
                  have y1 : w2.cell? ⟨r, 1, none⟩ = some (.slice (some ⟨g, 0, none⟩) fs'.length cap2) := by rw [x1]; exact d1'
                  have y2 : w2.cell? ⟨g, a * 3 + 1, none⟩ = some (.slice a5 n5 c5) := by rw [x2]; exact k1'
                  have y3 : w2.cell? ⟨b, off + k, none⟩ = some (.slice q bs[k].length cq) := by rw [x3]; exact hcell
                  rw [hv5] at hrun
                  have R1 := Lib.hid hrun
                  have Q1 := Lib.hid q1
                  have Q2 := Lib.hid q2
                  have HE := Lib.hid hE
                  have HNA := Lib.hid hna
                  have a0 : (0 : Int) ≤ (a : Int) := Int.natCast_nonneg _
                  have a1 : (a : Int) < (fs'.length : Int) := by omega
                  have b0 : (0 : Int) ≤ (k : Int) := Int.natCast_nonneg _
                  have b1 : (k : Int) < (bs.length : Int) := by omega
                  clear hd0 hd' hu' hdl hc' hlv k0 k1 k2 fz d1 hHB hown hgrow hself hmo hE hwfk q1 q2 hrun x1 x2 x3 hnr hng hnb hv5 hna hdl1
                  go_wp2_with fail
                  go_region_law (refine step_append_run rfl _ _ _ rfl _ _ rfl rfl R1.out ?_)
                  all_goals
                    go_wp2_with fail
                    go_roundw
                    case rel =>
                      have hq := Q1.out.plus2 (a := w) (b := wr.drew) hml.out.size Q2.out.size
                      rw [← HE.out] at hq
                      refine ⟨k + 1, by omega, by go_num, hml.out.drew.trans Q2.out (fun i e => e.elim .inl (fun e => .inr e.1)), Exists.intro (fs'.set a { fs'[a] with v := .slice a6 n6 c6, data := fs'[a].data ++ bs[k] }) (Exists.intro (by rw [List.length_set]; exact ha') ⟨?_, ?_⟩)⟩
                      · rw [List.getElem_set_self]; exact HNA.out
                      · exact hq
                    case measure => simp [intOf]; omega
                · have hk' : k = bs.length := by omega
                  have G4 := Lib.hid hdl
                  have HK := Lib.hid hk'
                  clear hdl hk'
                  go_wp2_with fail
                  go_ret
                  obtain ⟨fs', ha', hna, hd'⟩ := G4.out
                  rw [HK.out, List.take_length] at hd'
                  exact ⟨by rw [e1.out]; rfl, hml.out, lv, c', fs', by rw [e1.out]; exact hd'⟩

end
end Go.Proofs.YtglkonhhknaomaaDoor
