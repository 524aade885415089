/- The walk of disk's Append. -/
import Derived.Test.YtglkonhhknaomaaDoorEchPut
namespace Go.Proofs.YtglkonhhknaomaaDoor
open Go.RowKit Go.Maps Go.WideMaps

theorem BytesAt.kept {w w' : World} {v : Value} {l : List UInt8} (h : BytesAt w v l) {S : Nat → Prop} (hm : Mod S w w') (hn : ∀ k, v.ownBlock = some k → ¬ S k) : BytesAt w' v l := by
  obtain ⟨p, cap, rfl, h1, h2, h3⟩ := h
  refine ⟨p, cap, rfl, h1, h2, fun a e => ?_⟩
  subst e
  intro i hi
  obtain ⟨hs, hc⟩ := h3 a rfl i hi
  refine ⟨hs, ?_⟩
  rw [hm.cell (p := ⟨a.block, a.off + i, none⟩) (World.block_lt_of_cell? w _ hc) (hn _ rfl)]
  exact hc

theorem strsAt_one (w : World) (s : ByteArray) (hs : s.size ≤ maxLen) (t : TypeId) : StrsAt (w.alloc (.cells #[.string s] t)) (.slice (some ⟨w.heap.size, 0, none⟩) 1 1) [s.data.toList] := by
  refine ⟨_, 1, rfl, by simp [maxLen], fun x hx => ?_, fun i hi => ⟨_, 0, rfl, ?_⟩⟩
  · simp only [List.mem_singleton] at hx
    subst hx
    rw [Array.length_toList]
    exact hs
  · have : i = 0 := by simpa using hi
    subst this
    simp [encS]

section
variable {w : World} {S : Nat → Prop} {d mb : Nat} {st : DSt} {fs : List FileR}

/-- What the head of Append comes to: the bytes joined. -/
def JoinedIn (w w1 : World) (v : Value) (more : List UInt8) : Prop := BytesAt w1 v more ∧ (∀ k, v.ownBlock = some k → w.heap.size ≤ k) ∧ Below w.heap.size w w1

set_option maxRecDepth 100000 in
set_option maxHeartbeats 1000000 in
theorem append_stop (h : DiskAt w S d mb st fs) (s : ByteArray) (hs : s.size ≤ maxLen) (bv : Value) (bs : List (List UInt8)) (hb : ListAt w bv bs) (hl : bs.flatten.length ≤ 1099511627776) (hh : st.halts = true) :
    Calls Tryd.prog 14 #[.pointer (some ⟨d, 0, none⟩), .string s, bv] w (DiskPost w S d mb (st.append s.data.toList bs.flatten)) := by
  have e1 : Hid (st.append s.data.toList bs.flatten = (32, st)) := by show _ = _; simp [DSt.append, hh]
  have hj := join_any w bv bs hb (by omega)
  have H := Lib.hid h
  have HJ := Lib.hid hj
  have HH := Lib.hid hh
  clear hj hb h hh
  go_enter Tryd.func14, Tryd.ntmps14
  go_wp2_with fail
  refine HJ.out.mono ?_
  rintro e w1 ⟨v, rfl, hv, hvb, hb1⟩
  have hd1 := H.out.kept (Mod.ofBelow hb1 Nil) (fun _ _ e => e)
  obtain ⟨-, c1, -, -⟩ := hd1.cells
  obtain ⟨p, hp⟩ := lookV_ptr fs s.data.toList
  have hlk := hd1.lookup s hs
  rw [hp] at hlk
  have HST := Lib.hid (stopped_any hd1)
  clear HJ hp hd1 hv hs
  go_wp2_with fail
  refine HST.out.mono ?_
  rintro e w2 ⟨rfl, hd2, hm2, -⟩
  have HD2 := Lib.hid hd2
  clear hd2 HST
  rw [HH.out]
  go_wp2_with fail
  go_ret
  have hmm : Mod S w w2 := (Mod.ofBelow hb1 S).trans hm2 (fun k hk => .inl hk)
  exact ⟨by rw [e1.out]; rfl, hmm, fs, by
    rw [e1.out]
    have := HD2.out
    rw [DSt.tick_halted HH.out] at this
    exact plus_self this⟩

set_option maxRecDepth 100000 in
set_option maxHeartbeats 1000000 in
theorem append_name (h : DiskAt w S d mb st fs) (s : ByteArray) (hs : s.size ≤ maxLen) (bv : Value) (bs : List (List UInt8)) (hb : ListAt w bv bs) (hl : bs.flatten.length ≤ 1099511627776) (hh : st.halts = false) (hn : nameOk s.data.toList = false) :
    Calls Tryd.prog 14 #[.pointer (some ⟨d, 0, none⟩), .string s, bv] w (DiskPost w S d mb (st.append s.data.toList bs.flatten)) := by
  have e1 : Hid (st.append s.data.toList bs.flatten = (30, st.tick)) := by show _ = _; simp [DSt.append, hh, hn]
  have hj := join_any w bv bs hb (by omega)
  have H := Lib.hid h
  have HJ := Lib.hid hj
  have HH := Lib.hid hh
  have HN := Lib.hid hn
  have HSZ := Lib.hid hs
  clear hj hb h hh hn
  go_enter Tryd.func14, Tryd.ntmps14
  go_wp2_with fail
  refine HJ.out.mono ?_
  rintro e w1 ⟨v, rfl, hv, hvb, hb1⟩
  have hd1 := H.out.kept (Mod.ofBelow hb1 Nil) (fun _ _ e => e)
  obtain ⟨-, c1, -, -⟩ := hd1.cells
  obtain ⟨p, hp⟩ := lookV_ptr fs s.data.toList
  have hlk := hd1.lookup s hs
  rw [hp] at hlk
  have HST := Lib.hid (stopped_any hd1)
  clear HJ hp hd1 hv hs
  go_wp2_with fail
  refine HST.out.mono ?_
  rintro e w2 ⟨rfl, hd2, hm2, -⟩
  have HD2 := Lib.hid hd2
  clear hd2 HST
  rw [HH.out]
  go_wp2_with fail
  refine (name_any _ _ _ (strsAt_one w2 s HSZ.out _)).mono ?_
  rintro e w3 ⟨rfl, hb3⟩
  rw [show [s.data.toList].all nameOk = false from by simp [HN.out]]
  have hm3 : Mod Nil w2 w3 := (((Mod.refl Nil w2).alloc _).thenBelow hb3)
  clear hb3
  go_wp2_with fail
  go_ret
  have hmm : Mod S w w3 := ((Mod.ofBelow hb1 S).trans hm2 (fun k hk => .inl hk)).trans hm3 (fun k hk => hk.elim)
  exact ⟨by rw [e1.out]; rfl, hmm, fs, by
    rw [e1.out]
    exact plus_self (HD2.out.kept hm3 (fun _ _ e => e))⟩

set_option maxRecDepth 100000 in
set_option maxHeartbeats 2000000 in
theorem append_full (h : DiskAt w S d mb st fs) (s : ByteArray) (hs : s.size ≤ maxLen) (bv : Value) (bs : List (List UInt8)) (hb : ListAt w bv bs) (hl : bs.flatten.length ≤ 1099511627776) (hh : st.halts = false) (hn : nameOk s.data.toList = true) (hfull : st.tick.free < bs.flatten.length) :
    Calls Tryd.prog 14 #[.pointer (some ⟨d, 0, none⟩), .string s, bv] w (DiskPost w S d mb (st.append s.data.toList bs.flatten)) := by
  have e1 : Hid (st.append s.data.toList bs.flatten = (31, st.tick)) := DSt.append_full hh hn hfull
  have hj := join_any w bv bs hb (by omega)
  have H := Lib.hid h
  have HJ := Lib.hid hj
  have HH := Lib.hid hh
  have HN := Lib.hid hn
  have HSZ := Lib.hid hs
  clear hj hb h hh hn
  generalize bs.flatten = more at *
  go_enter Tryd.func14, Tryd.ntmps14
  go_wp2_with fail
  refine HJ.out.mono ?_
  rintro e w1 ⟨v, rfl, hv, hvb, hb1⟩
  have hd1 := H.out.kept (Mod.ofBelow hb1 Nil) (fun _ _ e => e)
  obtain ⟨-, c1, -, -⟩ := hd1.cells
  have hlk := hd1.lookup s hs
  have HV := Lib.hid hv
  obtain ⟨q, cap, rfl, -, -, -⟩ := hv
  have HVB := Lib.hid hvb
  have HST := Lib.hid (stopped_any hd1)
  obtain ⟨p, hp⟩ := lookV_ptr fs s.data.toList
  rw [hp] at hlk
  clear hp
  clear HJ hd1 hs hvb
  go_wp2_with fail
  refine HST.out.mono ?_
  rintro e w2 ⟨rfl, hd2, hm2, -⟩
  have HD2 := Lib.hid hd2
  have hnv : ∀ k, (Value.slice q more.length cap).ownBlock = some k → ¬ S k := fun k hk e => by
    have h1 := HVB.out k hk
    have h2 := H.out.inS k e
    omega
  have HV2 := Lib.hid (HV.out.kept hm2 hnv)
  clear hd2 HST hnv
  rw [HH.out]
  go_wp2_with fail
  refine (name_any _ _ _ (strsAt_one w2 s HSZ.out _)).mono ?_
  rintro e w3 ⟨rfl, hb3⟩
  rw [show [s.data.toList].all nameOk = true from by simp [HN.out]]
  have hm3 : Mod Nil w2 w3 := (((Mod.refl Nil w2).alloc _).thenBelow hb3)
  have hd3 := HD2.out.kept hm3 (fun _ _ e => e)
  have HD3 := Lib.hid hd3
  have HF := Lib.hid (free_any hd3)
  clear hb3 hd3
  go_wp2_with fail
  refine HF.out.mono ?_
  rintro e w4 ⟨rfl, hm4⟩
  have hd4 := HD3.out.kept hm4 (fun _ _ e => e)
  have HV4 := Lib.hid ((HV2.out.kept hm3 (fun _ _ e => e)).kept hm4 (fun _ _ e => e))
  have hmm : Mod S w w4 := (((Mod.ofBelow hb1 S).trans hm2 (fun k hk => .inl hk)).trans hm3 (fun k hk => hk.elim)).trans hm4 (fun k hk => hk.elim)
  clear HF HD3 HD2 HV2 HV hm2 hm3 hm4
  have HD4 := Lib.hid hd4
  clear hd4
  go_wp2_with fail
  go_ret
  exact ⟨by rw [e1.out]; rfl, hmm, fs, by rw [e1.out]; exact plus_self HD4.out⟩

set_option maxRecDepth 100000 in
set_option maxHeartbeats 2000000 in
theorem append_many (h : DiskAt w S d mb st fs) (s : ByteArray) (hs : s.size ≤ maxLen) (bv : Value) (bs : List (List UInt8)) (hb : ListAt w bv bs) (hl : bs.flatten.length ≤ 1099511627776) (hh : st.halts = false) (hn : nameOk s.data.toList = true) (hroom : bs.flatten.length ≤ st.tick.free) (hfn : findR fs s.data.toList = none) (hcnt : 4096 ≤ fs.length) :
    Calls Tryd.prog 14 #[.pointer (some ⟨d, 0, none⟩), .string s, bv] w (DiskPost w S d mb (st.append s.data.toList bs.flatten)) := by
  have e1 : Hid (st.append s.data.toList bs.flatten = (31, st.tick)) := DSt.append_many hh hn (by rw [h.abs, findR_abs, hfn]; rfl) (by rw [h.abs]; simpa using hcnt)
  have HFN := Lib.hid hfn
  clear hfn
  have hj := join_any w bv bs hb (by omega)
  have H := Lib.hid h
  have HJ := Lib.hid hj
  have HH := Lib.hid hh
  have HN := Lib.hid hn
  have HSZ := Lib.hid hs
  clear hj hb h hh hn
  generalize bs.flatten = more at *
  go_enter Tryd.func14, Tryd.ntmps14
  go_wp2_with fail
  refine HJ.out.mono ?_
  rintro e w1 ⟨v, rfl, hv, hvb, hb1⟩
  have hd1 := H.out.kept (Mod.ofBelow hb1 Nil) (fun _ _ e => e)
  obtain ⟨-, c1, -, -⟩ := hd1.cells
  have hlk := hd1.lookup s hs
  have HV := Lib.hid hv
  obtain ⟨q, cap, rfl, -, -, -⟩ := hv
  have HVB := Lib.hid hvb
  have HST := Lib.hid (stopped_any hd1)
  rw [show lookV fs s.data.toList = .pointer none from by unfold lookV; rw [HFN.out]] at hlk
  clear HJ hd1 hs hvb
  go_wp2_with fail
  refine HST.out.mono ?_
  rintro e w2 ⟨rfl, hd2, hm2, -⟩
  have HD2 := Lib.hid hd2
  have hnv : ∀ k, (Value.slice q more.length cap).ownBlock = some k → ¬ S k := fun k hk e => by
    have h1 := HVB.out k hk
    have h2 := H.out.inS k e
    omega
  have HV2 := Lib.hid (HV.out.kept hm2 hnv)
  clear hd2 HST hnv
  rw [HH.out]
  go_wp2_with fail
  refine (name_any _ _ _ (strsAt_one w2 s HSZ.out _)).mono ?_
  rintro e w3 ⟨rfl, hb3⟩
  rw [show [s.data.toList].all nameOk = true from by simp [HN.out]]
  have hm3 : Mod Nil w2 w3 := (((Mod.refl Nil w2).alloc _).thenBelow hb3)
  have hd3 := HD2.out.kept hm3 (fun _ _ e => e)
  have HD3 := Lib.hid hd3
  have HF := Lib.hid (free_any hd3)
  clear hb3 hd3
  go_wp2_with fail
  refine HF.out.mono ?_
  rintro e w4 ⟨rfl, hm4⟩
  have hd4 := HD3.out.kept hm4 (fun _ _ e => e)
  have HV4 := Lib.hid ((HV2.out.kept hm3 (fun _ _ e => e)).kept hm4 (fun _ _ e => e))
  have hmm : Mod S w w4 := (((Mod.ofBelow hb1 S).trans hm2 (fun k hk => .inl hk)).trans hm3 (fun k hk => hk.elim)).trans hm4 (fun k hk => hk.elim)
  clear HF HD3 HD2 HV2 HV hm2 hm3 hm4
  have hlen := fun ty => hd4.len ty
  obtain ⟨-, c4, -, -⟩ := hd4.cells
  have HD4 := Lib.hid hd4
  clear hd4
  go_wp2_with fail
  go_ret
  exact ⟨by rw [e1.out]; rfl, hmm, fs, by rw [e1.out]; exact plus_self HD4.out⟩

end
end Go.Proofs.YtglkonhhknaomaaDoor
