/- The walk of disk's Append where it lays bytes. -/
import Derived.Test.YtglkonhhknaomaaDoorEchAppend
namespace Go.Proofs.YtglkonhhknaomaaDoor
open Go.RowKit Go.Maps Go.WideMaps

section
variable {w : World} {S : Nat → Prop} {d mb : Nat} {st : DSt} {fs : List FileR}

theorem OwnBytes.slice {w : World} {v : Value} {l : List UInt8} (h : OwnBytes w v l) : ∃ a n c, v = .slice a n c := by
  rcases h.form with ⟨rfl, _⟩ | ⟨g, cap, cur, rfl, _⟩
  · exact ⟨_, _, _, rfl⟩
  · exact ⟨_, _, _, rfl⟩
theorem BytesAt.grown {w w' : World} {v : Value} {l : List UInt8} (h : BytesAt w v l) {row : Option Nat} (hg : w.grownBy w' row) (hn : ∀ k, v.ownBlock = some k → some k ≠ row) : BytesAt w' v l :=
  h.kept (S := fun k => some k = row) ((Mod.refl _ w).grown hg (fun _ e => .inl e.symm)) hn
theorem BytesAt.alloc {w : World} {v : Value} {l : List UInt8} (h : BytesAt w v l) (o : Obj) : BytesAt (w.alloc o) v l := h.kept ((Mod.refl Nil w).alloc o) (fun _ _ e => e)

theorem key_mk (s : ByteArray) (hs : s.size ≤ maxLen) : keyOf Tryd.prog 9 (.string s) = some (.string s.data.toList) := key_string s hs

set_option maxRecDepth 100000 in
set_option maxHeartbeats 2000000 in
theorem append_new (h : DiskAt w S d mb st fs) (s : ByteArray) (hs : s.size ≤ maxLen) (bv : Value) (bs : List (List UInt8)) (hb : ListAt w bv bs) (hl : bs.flatten.length ≤ 1099511627776) (hh : st.halts = false) (hn : nameOk s.data.toList = true) (hroom : bs.flatten.length ≤ st.tick.free) (hsum : total st.files + bs.flatten.length ≤ 1099511627776) (hfn : findR fs s.data.toList = none) (hcnt : fs.length < 4096) :
    Calls Tryd.prog 14 #[.pointer (some ⟨d, 0, none⟩), .string s, bv] w (DiskPost w S d mb (st.append s.data.toList bs.flatten)) := by
  have hff : findF st.files s.data.toList = none := by rw [h.abs, findR_abs, hfn]; rfl
  have e1 : Hid (st.append s.data.toList bs.flatten = (0, { st.tick with files := insF ⟨s.data.toList, bs.flatten, 0⟩ (delF st.tick.files s.data.toList) })) := DSt.append_new hh hn hroom hff (by rw [h.abs]; simpa using hcnt)
  have hwf : Hid (DSt.wf { st.tick with files := insF ⟨s.data.toList, bs.flatten, 0⟩ (delF st.tick.files s.data.toList) }) := by
    have ht := h.wf.tick
    have e : delF st.tick.files s.data.toList = st.tick.files := delF_none hff
    have hroom' := hroom
    unfold DSt.free at hroom'
    have hfit := ht.fits
    refine ht.put (f := ⟨s.data.toList, bs.flatten, 0⟩) (Nat.zero_le _) ?_ ?_ ?_ ?_
    · unfold nameOk at hn
      simp only [Bool.and_eq_true, decide_eq_true_eq] at hn
      exact hn.1.2
    · show total (delF _ _) + bs.flatten.length ≤ _
      rw [e]
      omega
    · show total (delF _ _) + bs.flatten.length ≤ _
      rw [e]
      exact hsum
    · show (delF _ _).length < _
      rw [e, DSt.tick_files, h.abs]
      simpa using hcnt
  have HFN := Lib.hid hfn
  clear hfn hff hsum
  have hj := join_any w bv bs hb (by omega)
  have H := Lib.hid h
  have HJ := Lib.hid hj
  have HH := Lib.hid hh
  have HN := Lib.hid hn
  have HSZ := Lib.hid hs
  clear hj hb h hh hn
  generalize bs.flatten = more at *
  go_enter Tryd.func14, Tryd.ntmps14
  go_wp2_with fail
  refine HJ.out.mono ?_
  rintro e w1 ⟨v, rfl, hv, hvb, hb1⟩
  have hd1 := H.out.kept (Mod.ofBelow hb1 Nil) (fun _ _ e => e)
  obtain ⟨-, c1, -, -⟩ := hd1.cells
  have hlk := hd1.lookup s hs
  have HV := Lib.hid hv
  obtain ⟨q, cap, rfl, -, -, -⟩ := hv
  have HVB := Lib.hid hvb
  have HST := Lib.hid (stopped_any hd1)
  rw [show lookV fs s.data.toList = .pointer none from by unfold lookV; rw [HFN.out]] at hlk
  clear HJ hd1 hs hvb
  go_wp2_with fail
  refine HST.out.mono ?_
  rintro e w2 ⟨rfl, hd2, hm2, -⟩
  have HD2 := Lib.hid hd2
  have hnv : ∀ k, (Value.slice q more.length cap).ownBlock = some k → ¬ S k := fun k hk e => by
    have h1 := HVB.out k hk
    have h2 := H.out.inS k e
    omega
  have HV2 := Lib.hid (HV.out.kept hm2 hnv)
  clear hd2 HST hnv
  rw [HH.out]
  go_wp2_with fail
  refine (name_any _ _ _ (strsAt_one w2 s HSZ.out _)).mono ?_
  rintro e w3 ⟨rfl, hb3⟩
  rw [show [s.data.toList].all nameOk = true from by simp [HN.out]]
  have hm3 : Mod Nil w2 w3 := (((Mod.refl Nil w2).alloc _).thenBelow hb3)
  have hd3 := HD2.out.kept hm3 (fun _ _ e => e)
  have HD3 := Lib.hid hd3
  have HF := Lib.hid (free_any hd3)
  clear hb3 hd3
  go_wp2_with fail
  refine HF.out.mono ?_
  rintro e w4 ⟨rfl, hm4⟩
  have hd4 := HD3.out.kept hm4 (fun _ _ e => e)
  have HV4 := Lib.hid ((HV2.out.kept hm3 (fun _ _ e => e)).kept hm4 (fun _ _ e => e))
  have hmm : Mod S w w4 := (((Mod.ofBelow hb1 S).trans hm2 (fun k hk => .inl hk)).trans hm3 (fun k hk => hk.elim)).trans hm4 (fun k hk => hk.elim)
  clear HF HD3 HD2 HV2 HV hm2 hm3 hm4
  have hlen := fun ty => hd4.len ty
  obtain ⟨-, c4, -, fz4⟩ := hd4.cells
  have fz41 := fz4 1
  have HD4 := Lib.hid hd4
  have hdlt := hd4.inS d hd4.ownD
  obtain ⟨w5, hup, hown5, hg5⟩ := (hd4.map.alloc (.cells #[.slice none 0 0, .int .i64 0] 63)).update keyed9 Tryd.underlying50 (by unfold maxLen; omega) (key_string s HSZ.out) (val := .pointer (some ⟨w4.heap.size, 0, none⟩)) (d := .lit (.int .u64 w4.heap.size)) (ps := []) rfl
  have hmlt := hd4.inS mb hd4.ownM
  have hnb : w5.heap[w4.heap.size]? = some (.cells #[.slice none 0 0, .int .i64 0] 63 (0, 0)) := blk_grown hg5 (blk_new w4 _) (by simp; omega)
  have k50 : w5.cell? ⟨w4.heap.size, 0, none⟩ = some (.slice none 0 0) := by rw [blk_cell hnb]; rfl
  have hv5 : BytesAt w5 (.slice q more.length cap) more := (HV4.out.alloc _).grown hg5 (fun k hk e => by
    cases e
    have h1 := HVB.out _ hk
    have h2 := H.out.inS _ H.out.ownM
    omega)
  obtain ⟨v6, w6, hr6, ho6, hg6, hk6, -⟩ := append_bytes (v := .slice none 0 0) (l := []) w5 42 (World.ownsRow_nil w5 0 5 1) hv5 (by simp; omega)
  have hnb6 := blk_grown hg6 hnb (by simp [Value.ownBlock])
  have k60 : w6.cell? ⟨w4.heap.size, 0, none⟩ = some (.slice none 0 0) := by rw [blk_cell hnb6]; rfl
  have fz60 : w6.frozen? ⟨w4.heap.size, 0, none⟩ = false := blk_frozen hnb6 0
  have hz5 : w4.heap.size + 1 ≤ w5.heap.size := by have := hg5.size; simpa using this
  have hk6' : ∀ k, v6.ownBlock = some k → w5.heap.size ≤ k := fun k hk => by
    rcases hk6 with e | e
    · rw [e] at hk; simp [Value.ownBlock] at hk
    · rw [e] at hk; have := Option.some.inj hk; omega
  obtain ⟨a6, n6, c6, rfl⟩ := ho6.slice
  have F1 := Lib.hid hown5
  have F2 := Lib.hid hg5
  have F3 := Lib.hid ho6
  have F4 := Lib.hid hg6
  have F5 := Lib.hid hk6'
  have F6 := Lib.hid hnb6
  have F7 := Lib.hid hz5
  have F8 := Lib.hid hr6
  clear hd4 fz4 hown5 hg5 ho6 hg6 hk6 hk6' hnb hnb6 hv5 hz5 hr6
  go_wp2_with (at_builtin; refine Lib.wpList_append_run_sl _ rfl _ _ 42 rfl _ _ rfl rfl F8.out ?_)
  go_ret
  have hmT : Mod (fun k => k = mb) w4 (w6.setCell ⟨w4.heap.size, 0, none⟩ (.slice a6 n6 c6)) :=
    ((((Mod.refl _ w4).alloc _).grown F2.out (fun k e => by cases e; exact .inl rfl)).grown F4.out (fun k e => by cases e)).setCell (p := ⟨w4.heap.size, 0, none⟩) (.inr (Nat.le_refl _)) _
  have hz7 := F7.out
  obtain ⟨g1, g2⟩ := HD4.out.put hmT (f := ⟨s.data.toList, w4.heap.size, .slice a6 n6 c6, more, 0⟩) (fun k hk e => .inl e)
    (World.ownsMap.setCell (F1.out.kept F4.out (by simp [Value.ownBlock])) (a := ⟨w4.heap.size, 0, none⟩) (by simp only; omega) _)
    ⟨by rw [blk_set F6.out]; rfl, F3.out.kept ((Mod.refl (fun k => k = w4.heap.size) w6).setCell (p := ⟨w4.heap.size, 0, none⟩) (.inl rfl) _) (fun k hk e => by have := F5.out k hk; omega)⟩
    (fun e => by have := F5.out _ e; simp only at this; omega)
    (fun k hk => by
      simp only [FileR.blks, List.mem_cons, Option.mem_toList] at hk
      rcases hk with rfl | hk
      · exact .inr (Nat.le_refl _)
      · have := F5.out k hk; exact .inr (by omega))
    hwf.out
  exact ⟨by rw [e1.out]; rfl, hmm.trans g2 (fun i e => .inl e), _, by rw [e1.out]; exact g1.plus hmm⟩

set_option maxRecDepth 100000 in
set_option maxHeartbeats 2000000 in
theorem append_old (h : DiskAt w S d mb st fs) (s : ByteArray) (hs : s.size ≤ maxLen) (bv : Value) (bs : List (List UInt8)) (hb : ListAt w bv bs) (hl : bs.flatten.length ≤ 1099511627776) (hh : st.halts = false) (hn : nameOk s.data.toList = true) (hroom : bs.flatten.length ≤ st.tick.free) (hsum : total st.files + bs.flatten.length ≤ 1099511627776) (f : FileR) (hfn : findR fs s.data.toList = some f) :
    Calls Tryd.prog 14 #[.pointer (some ⟨d, 0, none⟩), .string s, bv] w (DiskPost w S d mb (st.append s.data.toList bs.flatten)) := by
  have hff : findF st.files s.data.toList = some f.abs := by rw [h.abs, findR_abs, hfn]; rfl
  have e1 : Hid (st.append s.data.toList bs.flatten = (0, { st.tick with files := chgF st.tick.files s.data.toList fun f => { f with data := f.data ++ bs.flatten } })) := DSt.append_old hh hn hroom hff
  have hfm : f ∈ fs := List.mem_of_find?_eq_some hfn
  have hname : f.name = s.data.toList := (findR_split hfn).1
  have hwf : Hid (DSt.wf { st.tick with files := chgF st.tick.files s.data.toList fun f => { f with data := f.data ++ bs.flatten } }) := by
    have ht := h.wf.tick
    have hroom' := hroom
    unfold DSt.free at hroom'
    have hfit := ht.fits
    have hsafe := h.wf.safe f.abs (by rw [h.abs]; exact List.mem_map.2 ⟨f, hfm, rfl⟩)
    have hlen : (f.abs.data ++ bs.flatten).length = f.abs.data.length + bs.flatten.length := List.length_append
    have htf : total st.tick.files = total st.files := rfl
    refine ht.chg (F := fun f => { f with data := f.data ++ bs.flatten }) hff (fun _ => rfl) ?_ ?_ ?_
    · show f.abs.safe ≤ (f.abs.data ++ bs.flatten).length
      omega
    · show total st.tick.files + (f.abs.data ++ bs.flatten).length ≤ st.tick.room + f.abs.data.length
      omega
    · show total st.tick.files + (f.abs.data ++ bs.flatten).length ≤ 1099511627776 + f.abs.data.length
      omega
  have hsm : Hid (f.data.length + bs.flatten.length ≤ 1099511627776) := by
    have := total_mem (f := f.abs) (l := st.files) (by rw [h.abs]; exact List.mem_map.2 ⟨f, hfm, rfl⟩)
    have e : f.abs.data = f.data := rfl
    rw [e] at this
    show _ ≤ _
    omega
  have HFN := Lib.hid hfn
  have HFM := Lib.hid hfm
  have HNM := Lib.hid hname
  clear hfn hff hsum hfm hname
  have hj := join_any w bv bs hb (by omega)
  have H := Lib.hid h
  have HJ := Lib.hid hj
  have HH := Lib.hid hh
  have HN := Lib.hid hn
  have HSZ := Lib.hid hs
  clear hj hb h hh hn
  generalize bs.flatten = more at *
  go_enter Tryd.func14, Tryd.ntmps14
  go_wp2_with fail
  refine HJ.out.mono ?_
  rintro e w1 ⟨v, rfl, hv, hvb, hb1⟩
  have hd1 := H.out.kept (Mod.ofBelow hb1 Nil) (fun _ _ e => e)
  obtain ⟨-, c1, -, -⟩ := hd1.cells
  have hlk := hd1.lookup s hs
  have HV := Lib.hid hv
  obtain ⟨q, cap, rfl, -, -, -⟩ := hv
  have HVB := Lib.hid hvb
  have HST := Lib.hid (stopped_any hd1)
  rw [show lookV fs s.data.toList = .pointer (some ⟨f.blk, 0, none⟩) from by unfold lookV; rw [HFN.out]] at hlk
  clear HJ hd1 hs hvb
  go_wp2_with fail
  refine HST.out.mono ?_
  rintro e w2 ⟨rfl, hd2, hm2, -⟩
  have HD2 := Lib.hid hd2
  have hnv : ∀ k, (Value.slice q more.length cap).ownBlock = some k → ¬ S k := fun k hk e => by
    have h1 := HVB.out k hk
    have h2 := H.out.inS k e
    omega
  have HV2 := Lib.hid (HV.out.kept hm2 hnv)
  clear hd2 HST hnv
  rw [HH.out]
  go_wp2_with fail
  refine (name_any _ _ _ (strsAt_one w2 s HSZ.out _)).mono ?_
  rintro e w3 ⟨rfl, hb3⟩
  rw [show [s.data.toList].all nameOk = true from by simp [HN.out]]
  have hm3 : Mod Nil w2 w3 := (((Mod.refl Nil w2).alloc _).thenBelow hb3)
  have hd3 := HD2.out.kept hm3 (fun _ _ e => e)
  have HD3 := Lib.hid hd3
  have HF := Lib.hid (free_any hd3)
  clear hb3 hd3
  go_wp2_with fail
  refine HF.out.mono ?_
  rintro e w4 ⟨rfl, hm4⟩
  have hd4 := HD3.out.kept hm4 (fun _ _ e => e)
  have HV4 := Lib.hid ((HV2.out.kept hm3 (fun _ _ e => e)).kept hm4 (fun _ _ e => e))
  have hmm : Mod S w w4 := (((Mod.ofBelow hb1 S).trans hm2 (fun k hk => .inl hk)).trans hm3 (fun k hk => hk.elim)).trans hm4 (fun k hk => hk.elim)
  clear HF HD3 HD2 HV2 HV hm2 hm3 hm4
  obtain ⟨k40, -, kf4⟩ := (hd4.files f HFM.out).cells
  have hv4 := HV4.out
  have hself := hd4.apart.self f HFM.out
  have hold := hd4.own f HFM.out
  have hltf := fun k hk => hd4.inS k (hold k hk)
  obtain ⟨v6, w6, hr6, ho6, hg6, hk6, -⟩ := append_bytes w4 42 (hd4.files f HFM.out).2 hv4 (by have := hsm.out; omega)
  have hnb6 := blk_grown hg6 (hd4.files f HFM.out).1 (fun e => hself e.symm)
  have k60 : w6.cell? ⟨f.blk, 0, none⟩ = some f.v := by rw [blk_cell hnb6]; rfl
  have fz60 : w6.frozen? ⟨f.blk, 0, none⟩ = false := blk_frozen hnb6 0
  obtain ⟨a5, n5, c5, hfv⟩ := (hd4.files f HFM.out).2.slice
  rw [hfv] at k40 k60 hr6
  obtain ⟨a6, n6, c6, rfl⟩ := ho6.slice
  have HD4 := Lib.hid hd4
  have F3 := Lib.hid ho6
  have F4 := Lib.hid hg6
  have F5 := Lib.hid hk6
  have F6 := Lib.hid hnb6
  have F8 := Lib.hid hr6
  have F9 := Lib.hid hself
  have F10 := Lib.hid hltf
  clear hd4 ho6 hg6 hk6 hnb6 hr6 hfv hself hold hltf kf4 hv4
  go_wp2_with (at_builtin; refine Lib.wpList_append_run_sl _ rfl _ _ 42 rfl _ _ rfl rfl F8.out ?_)
  all_goals
    go_ret
    have hmT : Mod (fun k => some k = f.v.ownBlock ∨ k = f.blk) w4 (w6.setCell ⟨f.blk, 0, none⟩ (.slice a6 n6 c6)) :=
      ((Mod.refl _ w4).grown F4.out (fun k e => .inl (.inl e.symm))).setCell (p := ⟨f.blk, 0, none⟩) (.inl (.inr rfl)) _
    have hw := hwf.out
    rw [← HNM.out] at hw
    obtain ⟨g1, g2⟩ := HD4.out.change (f := f) (f' := { f with v := .slice a6 n6 c6, data := f.data ++ more }) hmT HFM.out (fun k _ e => by
        simp only [FileR.blks, List.mem_cons, Option.mem_toList]
        rcases e with e | e
        · exact .inr e.symm
        · exact .inl e) rfl rfl
      ⟨by rw [blk_set F6.out]; rfl, F3.out.kept ((Mod.refl (fun k => k = f.blk) w6).setCell (p := ⟨f.blk, 0, none⟩) (.inl rfl) _) (fun k hk e => by
        subst e
        rcases F5.out with e | e
        · exact F9.out (e ▸ hk)
        · rw [e] at hk
          have := F10.out f.blk (by simp [FileR.blks])
          have := Option.some.inj hk
          omega)⟩
      (fun k hk => by
        rcases F5.out with e | e
        · exact .inl (e ▸ hk)
        · rw [e] at hk; have := Option.some.inj hk; exact .inr (by omega))
      (fun f => { f with data := f.data ++ more }) rfl hw
    exact ⟨by rw [e1.out]; rfl, hmm.trans g2 (fun i e => .inl e), _, by rw [e1.out, ← HNM.out]; exact g1.plus hmm⟩

/-- disk.Append: whatever the disk, the name, the bytes. -/
theorem append_any (h : DiskAt w S d mb st fs) (s : ByteArray) (hs : s.size ≤ maxLen) (bv : Value) (bs : List (List UInt8)) (hb : ListAt w bv bs) (hsum : total st.files + bs.flatten.length ≤ 1099511627776) :
    Calls Tryd.prog 14 #[.pointer (some ⟨d, 0, none⟩), .string s, bv] w (DiskPost w S d mb (st.append s.data.toList bs.flatten)) := by
  have hl : bs.flatten.length ≤ 1099511627776 := by omega
  cases hh : st.halts with
  | true => exact append_stop h s hs bv bs hb hl hh
  | false =>
    cases hn : nameOk s.data.toList with
    | false => exact append_name h s hs bv bs hb hl hh hn
    | true =>
      by_cases hr : st.tick.free < bs.flatten.length
      · exact append_full h s hs bv bs hb hl hh hn hr
      · cases hf : findR fs s.data.toList with
        | none =>
          by_cases hc : 4096 ≤ fs.length
          · exact append_many h s hs bv bs hb hl hh hn (by omega) hf hc
          · exact append_new h s hs bv bs hb hl hh hn (by omega) hsum hf (by omega)
        | some f => exact append_old h s hs bv bs hb hl hh hn (by omega) hsum f hf

end
end Go.Proofs.YtglkonhhknaomaaDoor
