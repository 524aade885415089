/- The walk of disk's Free: a range over the map, each file's length taken away. -/
import Derived.Test.YtglkonhhknaomaaDoorEchDisk1
namespace Go.Proofs.YtglkonhhknaomaaDoor
open Go.RowKit Go.Maps Go.WideMaps

/-- The lengths of those files whose names are still to come. -/
def leftTotal (fs : List FileR) (left : Lit → Bool) : Nat := ((fs.filter fun f => left (.string f.name)).map fun f => f.data.length).sum

theorem leftTotal_all (fs : List FileR) : leftTotal fs (Maps.has (Dof fs)) = total (fs.map FileR.abs) := by
  unfold leftTotal total
  have e : fs.filter (fun f => Maps.has (Dof fs) (.string f.name)) = fs := by
    rw [List.filter_eq_self]
    intro f hf
    simp only [Dof, Maps.has_eq, List.any_map, List.any_eq_true]
    exact ⟨f, hf, by simp [Lit.sameKey]⟩
  rw [e]
  simp [FileR.abs, Function.comp_def]

theorem leftTotal_le (fs : List FileR) (left : Lit → Bool) : leftTotal fs left ≤ total (fs.map FileR.abs) := by
  unfold leftTotal total
  induction fs with
  | nil => simp
  | cons f r ih =>
    simp only [List.filter_cons, List.map_cons, List.sum_cons]
    have e : f.abs.data = f.data := rfl
    split
    · simp only [List.map_cons, List.sum_cons, e]; omega
    · simp only [e]; omega

theorem leftTotal_none (fs : List FileR) (left : Lit → Bool) (h : ∀ kl, left kl = false) : leftTotal fs left = 0 := by
  unfold leftTotal
  rw [List.filter_eq_nil_iff.2 (by intro f _; simp [h])]
  rfl

theorem leftTotal_take {fs : List FileR} (hn : fs.Pairwise fun f g => f.name ≠ g.name) {f : FileR} (hf : f ∈ fs) {left : Lit → Bool} (hl : left (.string f.name) = true) :
    leftTotal fs left = f.data.length + leftTotal fs (fun x => left x && !x.sameKey (.string f.name)) := by
  unfold leftTotal
  induction fs with
  | nil => cases hf
  | cons g r ih =>
    obtain ⟨h1, h2⟩ := List.pairwise_cons.1 hn
    rcases List.mem_cons.1 hf with rfl | hf
    · have e : r.filter (fun g => left (.string g.name) && !Lit.sameKey (.string g.name) (.string f.name)) = r.filter (fun g => left (.string g.name)) := by
        apply List.filter_congr
        intro g hg
        have : (g.name == f.name) = false := by simpa using (h1 g hg).symm
        simp [Lit.sameKey, this]
      simp [hl, Lit.sameKey]
      have e' := congrArg (fun l => (l.map fun f : FileR => f.data.length).sum) e
      simpa [Lit.sameKey] using e'.symm
    · have hne : (g.name == f.name) = false := by simpa using h1 f hf
      have := ih h2 hf
      simp only [List.filter_cons, Lit.sameKey, hne, Bool.not_false, Bool.and_true]
      split
      · simp only [List.map_cons, List.sum_cons]; simp only [Lit.sameKey] at this; omega
      · simpa [Lit.sameKey] using this

theorem Dof_key {fs : List FileR} {kl : Lit} {y : DataW Unit} (h : Maps.has (Dof fs) kl = true) (hat : ∀ zd, (Dof fs).atKey kl zd = y) (hk : ∃ s, kl = .string s) :
    ∃ f ∈ fs, kl = .string f.name ∧ y = .lit (.int .u64 f.blk) := by
  obtain ⟨s, rfl⟩ := hk
  have e := hat .nil
  rw [atKey_Dof] at e
  cases hf : findR fs s with
  | none =>
    exfalso
    simp only [Dof, Maps.has_eq, List.any_map, List.any_eq_true] at h
    obtain ⟨f, hm, hs⟩ := h
    have := List.find?_eq_none.1 hf f hm
    simp [Lit.sameKey] at hs
    simp [hs] at this
  | some f =>
    rw [hf] at e
    exact ⟨f, List.mem_of_find?_eq_some hf, by rw [(findR_split hf).1], e.symm⟩

section
variable {w : World} {S : Nat → Prop} {d mb : Nat} {st : DSt} {fs : List FileR}

theorem DiskAt.names_ne (h : DiskAt w S d mb st fs) : fs.Pairwise fun f g => f.name ≠ g.name := by
  have := h.wf.sorted
  rw [h.abs, List.pairwise_map] at this
  exact this.imp fun h => before_ne h

set_option maxHeartbeats 400000 in
theorem free_any (h : DiskAt w S d mb st fs) :
    Calls Tryd.prog 12 #[.pointer (some ⟨d, 0, none⟩)] w fun e w' => e = .returned (.int .i64 (st.free : Int)) ∧ Mod Nil w w' := by
  obtain ⟨c0, c1, -, -⟩ := h.cells
  obtain ⟨wr, hrange, hr0, hg0, hz0⟩ := h.map.range keyed9 Tryd.underlying50
  have hroom := h.wf.room
  go_enter Tryd.func12, Tryd.ntmps12
  have hnames := h.names_ne
  have hfit : total (fs.map FileR.abs) ≤ st.room := by rw [← h.abs]; exact h.wf.fits
  have hfree : Hid (st.free = st.room - total (fs.map FileR.abs)) := by show _ = _; rw [← h.abs]; rfl
  have HN := Lib.hid hnames
  clear hnames
  have HD := Lib.hid h
  clear h
  go_wp2
  go_loopw [3] (fun v wl => ∃ (left : Lit → Bool) (cnt : Nat) (x : Nat), v = .int .i64 (x : Int) ∧ x = st.room - (total (fs.map FileR.abs) - leftTotal fs left) ∧ wl.ranges Tryd.prog 9 ptrR mb w.heap.size fs.length (Dof fs) left cnt ∧ Mod Nil w wl ∧ ∀ kl, left kl = true → Maps.has (Dof fs) kl = true)
    (fun _ wl => wl.rangeLeft mb w.heap.size)
  case atStart => exact ⟨_, _, st.room, rfl, by rw [leftTotal_all]; omega, hr0, (Mod.refl _ _).grown hg0 (fun k e => by cases e), fun _ h => h⟩
  case round =>
    obtain ⟨left, cnt, x, rfl, hx, hR, hM, hsub⟩ := hrel
    have HX := Lib.hid hx
    clear hx
    rcases hR.next keyed9 0 with ⟨_, hnone, hrun⟩ | ⟨key, v, kl, y, w1, cnt1, hkey, hlk, hv, hat, hrun, hR1, hlt, hg1, hz1, hen⟩
    · have HL := Lib.hid hnone
      clear hnone hR hsub
      go_wp2
      go_ret
      refine ⟨?_, hM⟩
      have e := HX.out
      rw [leftTotal_none fs left HL.out] at e
      rw [hfree.out]
      exact congrArg (fun n : Nat => Ending.returned (.int .i64 (n : Int))) (by omega)
    · obtain ⟨f, hf, rfl, hy⟩ := Dof_key (hsub kl hlk) hat ((WideMaps.string_law Tryd.underlying9).str hkey)
      obtain ⟨y1, y2⟩ := y
      simp only at hy
      subst hy
      have hv' := ptrR_lit hv
      subst hv'
      have hM1 : Mod Nil w w1 := hM.grown hg1 (fun k e => by cases e; exact .inr (Nat.le_refl _))
      have hF : FileAt w1 f := (HD.out.files f hf).kept hM1 (fun _ _ e => e)
      obtain ⟨k0, -, -⟩ := hF.cells
      have htake := leftTotal_take HN.out hf hlk
      have hle := leftTotal_le fs left
      have H1 := Lib.hid hat
      have H2 := Lib.hid hR1
      have H3 := Lib.hid htake
      have hlen : f.data.length ≤ x := by
        have := HX.out
        omega
      have hx2 : x ≤ st.room := by have := HX.out; omega
      have HS := Lib.hid hsub
      clear hat hR1 hv hkey htake hsub
      rcases hF.2.form with ⟨hv0, hd0⟩ | ⟨g, cap, cur, hv0, -, -, -, -, -⟩
      · have hl0 : f.data.length = 0 := by rw [hd0]; rfl
        clear hd0
        rw [hv0] at k0
        go_wp2
        go_roundw
        case rel => exact ⟨_, cnt1, x - f.data.length, by simp only [Value.int.injEq, true_and]; omega, by have := HX.out; have := H3.out; omega, H2.out, hM1, fun kl h => HS.out kl (by simp at h; exact h.1)⟩
        case measure => rw [H2.out.left_eq, hR.left_eq]; exact hlt
      · rw [hv0] at k0
        go_wp2
        go_roundw
        case rel => exact ⟨_, cnt1, x - f.data.length, by simp only [Value.int.injEq, true_and]; omega, by have := HX.out; have := H3.out; omega, H2.out, hM1, fun kl h => HS.out kl (by simp at h; exact h.1)⟩
        case measure => rw [H2.out.left_eq, hR.left_eq]; exact hlt

end
end Go.Proofs.YtglkonhhknaomaaDoor
