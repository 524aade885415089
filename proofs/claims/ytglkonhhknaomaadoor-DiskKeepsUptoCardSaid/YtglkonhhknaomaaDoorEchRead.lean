/- The walks of bytes.Clone, bytes.Join, and of disk's Read and Names. -/
import Derived.Test.YtglkonhhknaomaaDoorEchName
import Derived.Test.YtglkonhhknaomaaDoorIter
namespace Go.Proofs.YtglkonhhknaomaaDoor
open Go.RowKit Go.Maps Go.WideMaps

/-- Bytes in a block from B on that is their owner's alone. -/
def NewBytes (B : Nat) (w : World) (v : Value) (l : List UInt8) : Prop := OwnBytes w v l ∧ ∀ k, v.ownBlock = some k → B ≤ k

theorem newBytes_of_row {B : Nat} {w : World} {v : Value} {n : Nat} {xs : List Value} {l : List UInt8} (h : w.ownsRow B 5 1 v n xs) (hn : n = l.length) (hx : xs = l.map encU8) : NewBytes B w v l := by
  subst hn
  subst hx
  refine ⟨⟨h.1, ?_⟩, fun k hk => (h.lt k hk).1⟩
  rcases h.2 with h | ⟨g, cap, cur, e, _, r⟩
  · exact .inl h
  · exact .inr ⟨g, cap, cur, e, Nat.zero_le _, r⟩

set_option maxHeartbeats 400000 in
theorem clone_any (w : World) (v : Value) (l : List UInt8) (h : BytesAt w v l) (hl : l.length ≤ 140737488355328) :
    Calls Tryd.prog 30 #[v] w fun e w' => ∃ v', e = .returned v' ∧ NewBytes w.heap.size w' v' l ∧ Below w.heap.size w w' ∧ (v' = .slice none 0 0 ↔ ∃ n c, v = .slice none n c) := by
  obtain ⟨p, cap, rfl, h1, h2, h3⟩ := h
  cases p with
  | none =>
    have hz : l = [] := List.eq_nil_of_length_eq_zero (by have := h2 rfl; omega)
    subst hz
    refine (Tryd.bytes_Clone_nil 0 cap w).mono ?_
    rintro e w' ⟨rfl, rfl⟩
    exact ⟨_, rfl, ⟨World.ownsRow_nil _ _ _ _, fun k hk => by cases hk⟩, Below.refl _ _, by simp⟩
  | some a =>
    have e0 : (l.map fun x => (x.toNat : Int)).length = l.length := by simp
    refine (Tryd.bytes_Clone_at a l.length cap (l.map fun x => (x.toNat : Int)) w e0 (by omega) (fun i hi => ?_)).mono ?_
    · obtain ⟨hs, hc⟩ := h3 a rfl i hi
      obtain ⟨b, off, spot⟩ := a
      simp only at hs
      subst hs
      have e1 : (⟨b, off, none⟩ : Addr).add i = ⟨b, off + i, none⟩ := by unfold Addr.add; split <;> simp_all
      rw [e1, hc]
      simp [encU8, List.getD, hi]
    · rintro e w' ⟨v', rfl, hrow, hne, hb⟩
      exact ⟨v', rfl, newBytes_of_row hrow rfl (by simp [encU8, Function.comp_def]), hb, by simp [hne]⟩

section
variable {w : World} {S : Nat → Prop} {d mb : Nat} {st : DSt} {fs : List FileR}

theorem total_mem {l : List DFile} {f : DFile} (h : f ∈ l) : f.data.length ≤ total l := by
  unfold total
  induction l with
  | nil => cases h
  | cons g r ih =>
    simp only [List.map_cons, List.sum_cons]
    rcases List.mem_cons.1 h with rfl | h
    · omega
    · have := ih h; omega

theorem DiskAt.file (h : DiskAt w S d mb st fs) {s : List UInt8} {f : DFile} (hf : findF st.files s = some f) : ∃ g ∈ fs, findR fs s = some g ∧ f = g.abs := by
  rw [h.abs, findR_abs] at hf
  obtain ⟨g, hg, rfl⟩ := Option.map_eq_some_iff.1 hf
  exact ⟨g, List.mem_of_find?_eq_some hg, hg, rfl⟩
theorem DiskAt.nofile (h : DiskAt w S d mb st fs) {s : List UInt8} (hf : findF st.files s = none) : findR fs s = none := by
  rw [h.abs, findR_abs] at hf
  simpa using hf

set_option maxHeartbeats 400000 in
theorem read_none (h : DiskAt w S d mb st fs) (s : ByteArray) (hs : s.size ≤ maxLen) (hf : findF st.files s.data.toList = none) :
    Calls Tryd.prog 13 #[.pointer (some ⟨d, 0, none⟩), .string s] w fun e w' => e = .returned (.tuple #[.slice none 0 0, .bool false]) ∧ w = w' := by
  obtain ⟨-, c1, -, -⟩ := h.cells
  have hl := h.lookup s hs
  have hn := h.nofile hf
  simp only [lookV, hn] at hl
  clear hn hf h hs
  go_enter Tryd.func13, Tryd.ntmps13
  go_wp2_with fail
  go_ret2
  exact ⟨rfl, rfl⟩

set_option maxHeartbeats 400000 in
theorem read_some (h : DiskAt w S d mb st fs) (s : ByteArray) (hs : s.size ≤ maxLen) (f : DFile) (hf : findF st.files s.data.toList = some f) :
    Calls Tryd.prog 13 #[.pointer (some ⟨d, 0, none⟩), .string s] w fun e w' =>
      ∃ v, e = .returned (.tuple #[v, .bool true]) ∧ NewBytes w.heap.size w' v f.data ∧ Below w.heap.size w w' := by
  obtain ⟨-, c1, -, -⟩ := h.cells
  have hl := h.lookup s hs
  obtain ⟨g, hg, hn, rfl⟩ := h.file hf
  simp only [lookV, hn] at hl
  obtain ⟨k0, -, -⟩ := (h.files g hg).cells
  have hsm := h.wf.small
  have ht := total_mem (f := g.abs) (l := st.files) (by rw [h.abs]; exact List.mem_map.2 ⟨g, hg, rfl⟩)
  have hc := clone_any w g.v g.data (h.files g hg).2.at (by have : g.abs.data = g.data := rfl; rw [this] at ht; omega)
  have HC := Lib.hid hc
  clear hn hf h hs hc hsm ht
  go_enter Tryd.func13, Tryd.ntmps13
  go_wp2_with fail
  refine HC.out.mono ?_
  rintro e w1 ⟨v', rfl, hn, hb, -⟩
  have HN := Lib.hid hn
  clear hn HC
  go_wp2_with fail
  go_ret2
  exact ⟨_, rfl, HN.out, hb⟩

/-! ### Names -/
def namesOf (l : List DFile) : List (List UInt8) := l.map DFile.name
def NewStrs (B : Nat) (w : World) (v : Value) (ss : List (List UInt8)) : Prop := w.ownsRow B 9 1 v ss.length (ss.map encS)

theorem before_lt : ∀ {a b : List UInt8}, bytesBefore a b = true → a < b
  | [], [], h => by simp [bytesBefore] at h
  | [], _ :: _, _ => List.nil_lt_cons _ _
  | _ :: _, [], h => by simp [bytesBefore] at h
  | x :: r, y :: s, h => by
    simp only [bytesBefore, Bool.or_eq_true, Bool.and_eq_true, decide_eq_true_eq, beq_iff_eq] at h
    rw [List.cons_lt_cons_iff]
    rcases h with h | ⟨rfl, h⟩
    · exact .inl h
    · exact .inr ⟨rfl, before_lt h⟩

theorem sorted_self {l : List (List UInt8)} (h : l.Pairwise fun a b => bytesBefore a b = true) : l.mergeSort (fun x y => decide (x ≤ y)) = l :=
  List.mergeSort_of_pairwise (h.imp fun h => by simpa using List.le_of_lt (before_lt h))

theorem strKeys_Dof (fs : List FileR) : strKeys (Dof fs) = fs.map FileR.name := by
  unfold Dof strKeys
  simp only [List.map_map]
  rfl

theorem StrsAt.ofNew {B : Nat} {w : World} {v : Value} {ss : List (List UInt8)} (h : NewStrs B w v ss) (hl : ∀ x ∈ ss, x.length ≤ maxLen) : StrsAt w v ss := by
  obtain ⟨h0, h⟩ := h
  rcases h with ⟨rfl, hz⟩ | ⟨g, cap, cur, rfl, _, hg, h1, h2, h3, h4⟩
  · have : ss = [] := List.eq_nil_of_length_eq_zero hz
    subst this
    exact ⟨none, 0, rfl, by simp [maxLen], by simp, fun i hi => by simp at hi⟩
  · refine ⟨_, cap, rfl, by omega, hl, fun i hi => ⟨g, 0, rfl, ?_⟩⟩
    rw [blk_cell hg]
    have e2 : (cur.toList.take (ss.length * 1))[i]? = (ss.map encS)[i]? := by rw [h4]
    rw [List.getElem?_take, if_pos (by omega)] at e2
    simpa [hi] using e2

set_option maxHeartbeats 400000 in
theorem names_any (h : DiskAt w S d mb st fs) :
    Calls Tryd.prog 11 #[.pointer (some ⟨d, 0, none⟩)] w fun e w' => ∃ v, e = .returned v ∧ NewStrs w.heap.size w' v (namesOf st.files) ∧ Below w.heap.size w w' := by
  obtain ⟨-, c1, -, -⟩ := h.cells
  have hsz : Maps.size (Dof fs) ≤ 4096 := by
    have := h.wf.count
    rw [h.abs] at this
    simpa [Dof, Maps.size] using this
  have k1 := callsIn_wide.1 (Tryd.maps_Keys_29 (some mb) w)
  have k2 := callsIn_wide.1 (Tryd.slices_Sorted_keys_28_29 mb fs.length (Dof fs) ptrR w h.map (by unfold maxLen; omega) (by omega))
  have hs : ∀ ss : List (List UInt8), ss.Perm (strKeys (Dof fs)) → ss.mergeSort (fun x y => decide (x ≤ y)) = namesOf st.files ∧ ss.length = (namesOf st.files).length := by
    intro ss hp
    have e1 : strKeys (Dof fs) = namesOf st.files := by rw [strKeys_Dof, h.abs]; simp [namesOf, FileR.abs, Function.comp_def]
    rw [e1] at hp
    exact ⟨(mergeSort_of_perm hp).trans (sorted_self (by
      have := h.wf.sorted
      rw [namesOf, List.pairwise_map]; exact this)), hp.length_eq⟩
  have K1 := Lib.hid k1
  have K2 := Lib.hid k2
  have HS := Lib.hid hs
  clear k1 k2 hs hsz h
  go_enter Tryd.func11, Tryd.ntmps11
  go_wp2_with fail
  refine K1.out.mono ?_
  rintro e w1 ⟨rfl, rfl⟩
  go_wp2_with fail
  refine K2.out.mono ?_
  rintro e w1 ⟨v, ss, rfl, hp, hrow, -, hb⟩
  have HP := Lib.hid hp
  have HR := Lib.hid hrow
  clear hp hrow K1 K2
  go_wp2_with fail
  go_ret
  obtain ⟨e1, e2⟩ := HS.out ss HP.out
  have hrow := HR.out
  rw [e1, e2] at hrow
  exact ⟨v, rfl, ownsRow_base_a hrow (by simp), ((Below.refl _ w).alloc (Nat.le_refl _) _).trans (hb.mono (by simp))⟩

end
end Go.Proofs.YtglkonhhknaomaaDoor
