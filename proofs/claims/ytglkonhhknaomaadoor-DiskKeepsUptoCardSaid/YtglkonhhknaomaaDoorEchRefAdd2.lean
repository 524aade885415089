/- The walk of the document's disk's add. -/
import Derived.Test.YtglkonhhknaomaaDoorEchRefAdd
namespace Go.Proofs.YtglkonhhknaomaaDoor
open Go.RowKit Go.Maps

def RefR.val (f : RefR) : Value := .agg #[strV f.name, f.v, .int .i64 (f.safe : Int)]
def RowW (w : World) (v : Value) (l : List RefR) : Prop := w.ownsRow 0 75 3 v l.length (rowOf l)

theorem row_nil (w : World) : RowW w (.slice none 0 0) [] := ⟨rfl, .inl ⟨rfl, rfl⟩⟩

/-- One append of files onto a row that is new. -/
theorem step_app (w0 w : World) (hm : Mod Nil w0 w) (ty : TypeId) {v : Value} {l : List RefR} (h : RowW w v l) (hnew : ∀ k, v.ownBlock = some k → w0.heap.size ≤ k) {src : Value} {m : List RefR} (hs : SrcAt w 3 src m.length (rowOf m)) (hb : l.length + m.length ≤ 10000) :
    ∃ a n c w', (Builtin.append_ #[29, 29] ty #[v, src]).run Tryd.prog w = .ok (.slice a n c) w' ∧ RowW w' (.slice a n c) (l ++ m) ∧ Mod Nil w0 w' ∧ (∀ k, (Value.slice a n c).ownBlock = some k → w0.heap.size ≤ k) ∧ Mod (fun k => v.ownBlock = some k) w w' := by
  obtain ⟨v', w', hr, ho, hg, hk, a, n, c, rfl⟩ := append_files w ty h hs hb
  refine ⟨a, n, c, w', hr, ho, hm.grown hg (fun k e => .inr (hnew k e)), fun k e => ?_, (Mod.refl _ w).grown hg (fun k e => .inl e)⟩
  rcases hk with h1 | h1
  · exact hnew k (by rw [← h1]; exact e)
  · rw [h1] at e; cases e; exact hm.size

theorem one_src (w : World) (f : RefR) (hf : f.v.oneCell' = true) : SrcAt (w.alloc (.cells #[strV f.name, f.v, .int .i64 (f.safe : Int)] 75)) 3 (.slice (some ⟨w.heap.size, 0, none⟩) 1 1) [f].length (rowOf [f]) := by
  refine ⟨rfl, rowOf_one [f] (fun g hg => by simp only [List.mem_singleton] at hg; subst hg; exact hf), .inr ⟨⟨w.heap.size, 0, none⟩, 1, rfl, fun j u hu => ?_⟩⟩
  rw [addr_add, blk_cell (blk_new w _)]
  simpa [rowOf, RefR.cells] using hu

/-- The three appends of add. -/
theorem add_runs (ty : TypeId) {w : World} {g cap : Nat} {cur : Array Value} {fs : List RefR} (hg : w.heap[g]? = some (.cells cur 75 (0, 0))) (h4 : cur.toList.take (fs.length * 3) = rowOf fs) (hv : ∀ f ∈ fs, f.v.oneCell' = true)
    (f : RefR) (hf : f.v.oneCell' = true) (k : Nat) (hk : k ≤ fs.length) (hfl : fs.length ≤ 4096) (p : Addr) (e3 : Nat) (hp : p = ⟨g, k * 3, none⟩ ∨ k = fs.length) :
    ∃ a1 n1 c1 w1 a2 n2 c2 w2 a3 n3 c3 w3,
      (Builtin.append_ #[29, 29] ty #[.slice none 0 0, .slice (some ⟨g, 0, none⟩) k cap]).run Tryd.prog w = .ok (.slice a1 n1 c1) w1 ∧
      (Builtin.append_ #[29, 29] ty #[.slice a1 n1 c1, .slice (some ⟨w1.heap.size, 0, none⟩) 1 1]).run Tryd.prog (w1.alloc (.cells #[strV f.name, f.v, .int .i64 (f.safe : Int)] 75)) = .ok (.slice a2 n2 c2) w2 ∧
      (Builtin.append_ #[29, 29] ty #[.slice a2 n2 c2, .slice (some p) (fs.length - k) e3]).run Tryd.prog w2 = .ok (.slice a3 n3 c3) w3 ∧
      Mod Nil w w1 ∧ Mod Nil w w2 ∧ Mod Nil w w3 ∧ RowW w3 (.slice a3 n3 c3) (fs.take k ++ f :: fs.drop k) ∧ ∀ k, (Value.slice a3 n3 c3).ownBlock = some k → w.heap.size ≤ k := by
  have hs1 := row_src hg h4 hv 0 k (Nat.zero_le _) hk cap
  simp only [Nat.zero_mul, Nat.sub_zero, List.drop_zero] at hs1
  obtain ⟨a1, n1, c1, w1, hr1, ho1, hm1, hn1, -⟩ := step_app w w (Mod.refl Nil w) ty (row_nil w) (fun k e => nomatch e) hs1 (by simp; omega)
  rw [List.nil_append] at ho1
  have hm1a : Mod Nil w (w1.alloc (.cells #[strV f.name, f.v, .int .i64 (f.safe : Int)] 75)) := hm1.alloc _
  have ho1a : RowW (w1.alloc (.cells #[strV f.name, f.v, .int .i64 (f.safe : Int)] 75)) (.slice a1 n1 c1) (fs.take k) := World.ownsRow.alloc ho1 _
  obtain ⟨a2, n2, c2, w2, hr2, ho2, hm2, hn2, -⟩ := step_app w _ hm1a ty ho1a hn1 (one_src w1 f hf) (by simp; omega)
  have hs3 : SrcAt w2 3 (.slice (some p) (fs.length - k) e3) (fs.drop k).length (rowOf (fs.drop k)) := by
    rcases hp with rfl | rfl
    · have hs3 := row_src (blk_mod hm2 hg (fun e => e)) h4 hv k fs.length hk (Nat.le_refl _) e3
      rw [List.take_length] at hs3
      exact hs3
    · refine ⟨by rw [List.drop_length]; rfl, fun u hu => ?_, .inr ⟨p, e3, by rw [List.length_drop], fun j u hu => ?_⟩⟩
      · rw [List.drop_length] at hu; exact nomatch hu
      · rw [List.drop_length] at hu; exact nomatch hu
  obtain ⟨a3, n3, c3, w3, hr3, ho3, hm3, hn3, -⟩ := step_app w _ hm2 ty ho2 hn2 hs3 (by simp; omega)
  refine ⟨a1, n1, c1, w1, a2, n2, c2, w2, a3, n3, c3, w3, hr1, hr2, hr3, hm1, hm2, hm3, ?_, hn3⟩
  rw [List.append_assoc] at ho3
  exact ho3

/-- The three appends of add, onto no row. -/
theorem add_runs_nil (ty : TypeId) (w : World) (f : RefR) (hf : f.v.oneCell' = true) :
    ∃ a1 n1 c1 w1 a2 n2 c2 w2 a3 n3 c3 w3,
      (Builtin.append_ #[29, 29] ty #[.slice none 0 0, .slice none 0 0]).run Tryd.prog w = .ok (.slice a1 n1 c1) w1 ∧
      (Builtin.append_ #[29, 29] ty #[.slice a1 n1 c1, .slice (some ⟨w1.heap.size, 0, none⟩) 1 1]).run Tryd.prog (w1.alloc (.cells #[strV f.name, f.v, .int .i64 (f.safe : Int)] 75)) = .ok (.slice a2 n2 c2) w2 ∧
      (Builtin.append_ #[29, 29] ty #[.slice a2 n2 c2, .slice none 0 0]).run Tryd.prog w2 = .ok (.slice a3 n3 c3) w3 ∧
      Mod Nil w w1 ∧ Mod Nil w w2 ∧ Mod Nil w w3 ∧ RowW w3 (.slice a3 n3 c3) [f] ∧ ∀ k, (Value.slice a3 n3 c3).ownBlock = some k → w.heap.size ≤ k := by
  obtain ⟨a1, n1, c1, w1, hr1, ho1, hm1, hn1, -⟩ := step_app w w (Mod.refl Nil w) ty (row_nil w) (fun k e => nomatch e) (row_none (w := w) rfl) (by simp)
  have hm1a : Mod Nil w (w1.alloc (.cells #[strV f.name, f.v, .int .i64 (f.safe : Int)] 75)) := hm1.alloc _
  have ho1a : RowW (w1.alloc (.cells #[strV f.name, f.v, .int .i64 (f.safe : Int)] 75)) (.slice a1 n1 c1) ([] ++ []) := World.ownsRow.alloc ho1 _
  obtain ⟨a2, n2, c2, w2, hr2, ho2, hm2, hn2, -⟩ := step_app w _ hm1a ty ho1a hn1 (one_src w1 f hf) (by simp)
  obtain ⟨a3, n3, c3, w3, hr3, ho3, hm3, hn3, -⟩ := step_app w _ hm2 ty ho2 hn2 (row_none (w := w2) rfl) (by simp)
  exact ⟨a1, n1, c1, w1, a2, n2, c2, w2, a3, n3, c3, w3, hr1, hr2, hr3, hm1, hm2, hm3, ho3, hn3⟩

theorem RefAt.oneCell {w : World} {S : Nat → Prop} {r : Nat} {lv : Value} {c : Int} {st : DSt} {fs : List RefR} (h : RefAt w S r lv c st fs) : ∀ f ∈ fs, f.v.oneCell' = true := fun f hf => by
  rcases (h.bytes f hf).form with ⟨e, _⟩ | ⟨_, _, _, e, _⟩ <;> rw [e] <;> rfl

section
variable {w : World} {S : Nat → Prop} {r : Nat} {lv : Value} {c : Int} {st : DSt} {fs : List RefR}

theorem pair_put {fs : List RefR} {f : RefR} (k : Nat) (h : fs.Pairwise fun f g => ∀ k, f.v.ownBlock = some k → g.v.ownBlock ≠ some k) (hf : ∀ k, f.v.ownBlock = some k → ∀ g ∈ fs, g.v.ownBlock ≠ some k) :
    (fs.take k ++ f :: fs.drop k).Pairwise fun f g => ∀ k, f.v.ownBlock = some k → g.v.ownBlock ≠ some k := by
  rw [← List.take_append_drop k fs, List.pairwise_append] at h
  obtain ⟨h1, h2, h3⟩ := h
  rw [List.pairwise_append, List.pairwise_cons]
  refine ⟨h1, ⟨fun g hg i e => hf i e g (List.mem_of_mem_drop hg), h2⟩, fun a ha b hb i e => ?_⟩
  simp only [List.mem_cons] at hb
  rcases hb with rfl | hb
  · exact fun e2 => hf i e2 a (List.mem_of_mem_take ha) e
  · exact h3 a ha b hb i e

theorem mem_put {fs : List RefR} {f x : RefR} {k : Nat} (h : x ∈ fs.take k ++ f :: fs.drop k) : x = f ∨ x ∈ fs := by
  rcases List.mem_append.1 h with h | h
  · exact .inr (List.mem_of_mem_take h)
  · rcases List.mem_cons.1 h with h | h
    · exact .inl h
    · exact .inr (List.mem_of_mem_drop h)

set_option maxRecDepth 100000 in
set_option maxHeartbeats 2000000 in
theorem refAdd_any (h : RefAt w S r lv c st fs) (f : RefR) (hne : ∀ g ∈ fs, g.name ≠ f.name) (hwf : DSt.wf { st with files := insF f.abs st.files }) (hb : OwnBytes w f.v f.data)
    (hap : ∀ k, f.v.ownBlock = some k → k ≠ r ∧ S k ∧ ∀ g ∈ fs, g.v.ownBlock ≠ some k) :
    Calls Tryd.prog 39 #[.pointer (some ⟨r, 0, none⟩), f.val] w fun e w' => e = .returned (.tuple #[]) ∧ Mod S w w' ∧ ∃ lv' fs', RefAt w' (Plus S w w') r lv' c { st with files := insF f.abs st.files } fs' := by
  have hfc : f.v.oneCell' = true := by rcases hb.form with ⟨e, _⟩ | ⟨_, _, _, e, _⟩ <;> rw [e] <;> rfl
  obtain ⟨c0, c1, -, -, hfz⟩ := h.cells
  have hfz1 := hfz 1
  have hcount := h.wf.count
  have hlen := h.len
  have hfl : fs.length ≤ 4096 := by omega
  have hrlt := h.inS r h.ownR
  have H := Lib.hid h
  have HB := Lib.hid hb
  have HAP := Lib.hid hap
  have HNE := Lib.hid hne
  have HWF := Lib.hid hwf
  have HFC := Lib.hid hfc
  unfold RefR.val strV
  rcases h.form with ⟨rfl, rfl⟩ | ⟨g, cap, cur, rfl, hg, h1, h2, h3, h4⟩
  · have hbx : Hid ((w.alloc (.cells #[.string ⟨f.name.toArray⟩, f.v, .int .i64 (f.safe : Int)] 75)).heap[w.heap.size]? = some (.cells #[.string ⟨f.name.toArray⟩, f.v, .int .i64 (f.safe : Int)] 75 (0, 0))) := blk_new w _
    have hm : Hid (Mod Nil w (w.alloc (.cells #[.string ⟨f.name.toArray⟩, f.v, .int .i64 (f.safe : Int)] 75))) := (Mod.refl Nil w).alloc _
    clear h hcount hlen hfz hb hap hne hwf hfc c0 c1 hfz1
    generalize hwr : w.alloc (.cells #[.string ⟨f.name.toArray⟩, f.v, .int .i64 (f.safe : Int)] 75) = wr at hbx hm
    have HWR := Lib.hid hwr
    clear hwr
    have hw := H.out.kept hm.out (fun _ _ e => e)
    obtain ⟨-, c1, -, -, -⟩ := hw.cells
    obtain ⟨a1, n1, d1, w1, a2, n2, d2, w2, a3, n3, d3, w3, r1, r2, r3, m1, m2, m3, hrow, hnew⟩ := add_runs_nil 29 wr.drew f HFC.out
    have hw1 := H.out.kept (w' := w1) (hm.out.drew.trans m1 (fun _ e => .inl e)) (fun _ _ e => e)
    obtain ⟨-, c11, -, -, -⟩ := hw1.cells
    have hw2 := H.out.kept (w' := w2) (hm.out.drew.trans m2 (fun _ e => .inl e)) (fun _ _ e => e)
    obtain ⟨-, c12, -, -, -⟩ := hw2.cells
    have M3 := Lib.hid (hm.out.drew.trans m3 (fun _ e => .inl e))
    have hw3 := H.out.kept (w' := w3) M3.out (fun _ _ e => e)
    obtain ⟨-, c13, -, -, hfz3⟩ := hw3.cells
    have hfz31 := hfz3 1
    have hbx1 := blk_mod (w' := w1) m1 hbx.out (fun e => e)
    have b10 : w1.cell? ⟨w.heap.size, 0, none⟩ = some (.string ⟨f.name.toArray⟩) := by rw [blk_cell hbx1]; rfl
    have b11 : w1.cell? ⟨w.heap.size, 1, none⟩ = some f.v := by rw [blk_cell hbx1]; rfl
    have b12 : w1.cell? ⟨w.heap.size, 2, none⟩ = some (.int .i64 (f.safe : Int)) := by rw [blk_cell hbx1]; rfl
    unfold strV at r2
    have R1 := Lib.hid r1
    have R2 := Lib.hid r2
    have R3 := Lib.hid r3
    have HRW := Lib.hid hrow
    have HNW := Lib.hid hnew
    clear r1 r2 r3 m1 m2 m3 hrow hnew hw1 hw2 hw3 hfz3 hbx1 hw
    go_enter Tryd.func39, Tryd.ntmps39
    go_wp2
    rw [HWR.out]
    refine wp_loop_rounds 1 ?_
    rw [rounds_succ]
    go_wp2_with fail
    go_region
    all_goals go_wp2_with (at_builtin; first | (have F := R1.out; clear R1; refine Lib.wpList_append_run_sl _ rfl _ _ 29 rfl _ _ rfl rfl F ?_; clear F) | (have F := R2.out; clear R2; refine Lib.wpList_append_run_sl _ rfl _ _ 29 rfl _ _ rfl rfl F ?_; clear F) | (have F := R3.out; clear R3; refine Lib.wpList_append_run_sl _ rfl _ _ 29 rfl _ _ rfl rfl F ?_; clear F))
    go_end0
    obtain ⟨q1, q2⟩ := H.out.rebuilt M3.out (st' := { st with files := insF f.abs st.files }) HRW.out (fun i e => Nat.le_trans hm.out.size (HNW.out i e)) (by rw [H.out.abs]; rfl) HWF.out
      (fun x hx => by
        simp only [List.mem_singleton] at hx
        subst hx
        exact HB.out)
      (fun x hx i e => by
        simp only [List.mem_singleton] at hx
        subst hx
        exact ⟨(HAP.out i e).1, (HAP.out i e).2.1⟩)
      (List.pairwise_singleton _ _)
    exact ⟨rfl, q2, _, _, q1⟩
  · have HR := Lib.hid hg
    have H4 := Lib.hid h4
    have hbox : Hid ((w.alloc (.cells #[.string ⟨f.name.toArray⟩, f.v, .int .i64 (f.safe : Int)] 75)).heap[w.heap.size]? = some (.cells #[.string ⟨f.name.toArray⟩, f.v, .int .i64 (f.safe : Int)] 75 (0, 0))) := blk_new w _
    have hbm : Hid (Mod Nil w (w.alloc (.cells #[.string ⟨f.name.toArray⟩, f.v, .int .i64 (f.safe : Int)] 75))) := (Mod.refl Nil w).alloc _
    clear h hg h4 hcount hlen hfz hb hap hne hwf hfc c0 c1 hfz1
    go_enter Tryd.func39, Tryd.ntmps39
    go_wp2
    go_loopw [4] (fun i wr => ∃ k : Nat, k ≤ fs.length ∧ i = .int .i64 (k : Int) ∧ Hid (∀ j (_ : j < k) (hl : j < fs.length), bytesBefore fs[j].name f.name = true) ∧ Hid (Mod Nil w wr) ∧ Hid (wr.heap[w.heap.size]? = some (.cells #[.string ⟨f.name.toArray⟩, f.v, .int .i64 (f.safe : Int)] 75 (0, 0)))) (fun i _ => fs.length - (intOf i).toNat)
    case atStart => exact ⟨0, Nat.zero_le _, rfl, fun j hj => by omega, hbm, hbox⟩
    case round =>
      obtain ⟨k, hk, rfl, hI, hm, hbx⟩ := hrel
      have hw := H.out.kept hm.out (fun _ _ e => e)
      obtain ⟨-, c1, -, -, hfz⟩ := hw.cells
      have b0 : wr.cell? ⟨w.heap.size, 0, none⟩ = some (.string ⟨f.name.toArray⟩) := by rw [blk_cell hbx.out]; rfl
      have hgr := blk_mod hm.out HR.out (fun e => e)
      clear hw hfz
      by_cases hlt : k < fs.length
      · obtain ⟨k0, -, -⟩ := row_cell hgr H4.out k hlt
        unfold strV at k0
        have hB := Lib.hid (less_before fs[k].name f.name)
        cases hbb : bytesBefore fs[k].name f.name with
        | true =>
          have H1 : Hid (∀ j (_ : j < k + 1) (hl : j < fs.length), bytesBefore fs[j].name f.name = true) := fun j hj hl => by
            by_cases e : j = k
            · subst e; exact hbb
            · exact hI.out j (by omega) hl
          have hb' : Op.bytesLess fs[k].name f.name = true := by rw [hB.out, hbb]
          clear hI hB hbb hgr
          go_wp2_with fail
          go_region
          all_goals (go_wp2_with fail)
          go_roundw
          case rel => exact ⟨k + 1, by omega, by go_num, H1, hm.out.drew, hbx⟩
          case measure => simp [intOf]; omega
        | false =>
          have HX : ∀ h : k < fs.length, bytesBefore fs[k].name f.name = false := fun _ => hbb
          have hb' : Op.bytesLess fs[k].name f.name = false := by rw [hB.out, hbb]
          clear hB hbb
          obtain ⟨a1, n1, d1, w1, a2, n2, d2, w2, a3, n3, d3, w3, r1, r2, r3, m1, m2, m3, hrow, hnew⟩ := add_runs (cap := cap) (w := wr.drew) 29 hgr H4.out H.out.oneCell f HFC.out k hk hfl ⟨g, k * 3, none⟩ (cap - k) (.inl rfl)
          have E0 := Lib.hid (insF_at f fs k hk hI.out HX HNE.out)
          have hw1 := H.out.kept (w' := w1) (hm.out.drew.trans m1 (fun _ e => .inl e)) (fun _ _ e => e)
          obtain ⟨-, c11, -, -, -⟩ := hw1.cells
          have hw2 := H.out.kept (w' := w2) (hm.out.drew.trans m2 (fun _ e => .inl e)) (fun _ _ e => e)
          obtain ⟨-, c12, -, -, -⟩ := hw2.cells
          have M3 := Lib.hid (hm.out.drew.trans m3 (fun _ e => .inl e))
          have hw3 := H.out.kept (w' := w3) M3.out (fun _ _ e => e)
          obtain ⟨-, c13, -, -, hfz3⟩ := hw3.cells
          have hfz31 := hfz3 1
          have hbx1 := blk_mod (w' := w1) m1 hbx.out (fun e => e)
          have b10 : w1.cell? ⟨w.heap.size, 0, none⟩ = some (.string ⟨f.name.toArray⟩) := by rw [blk_cell hbx1]; rfl
          have b11 : w1.cell? ⟨w.heap.size, 1, none⟩ = some f.v := by rw [blk_cell hbx1]; rfl
          have b12 : w1.cell? ⟨w.heap.size, 2, none⟩ = some (.int .i64 (f.safe : Int)) := by rw [blk_cell hbx1]; rfl
          unfold strV at r2
          have R1 := Lib.hid r1
          have R2 := Lib.hid r2
          have R3 := Lib.hid r3
          have HRW := Lib.hid hrow
          have HNW := Lib.hid hnew
          clear r1 r2 r3 m1 m2 m3 hrow hnew hw1 hw2 hw3 hfz3 hbx1 hI hgr HX
          go_wp2_with fail
          go_region
          all_goals go_wp2_with (at_builtin; first | (have F := R1.out; clear R1; refine Lib.wpList_append_run_sl _ rfl _ _ 29 rfl _ _ rfl rfl F ?_; clear F) | (have F := R2.out; clear R2; refine Lib.wpList_append_run_sl _ rfl _ _ 29 rfl _ _ rfl rfl F ?_; clear F) | (have F := R3.out; clear R3; refine Lib.wpList_append_run_sl _ rfl _ _ 29 rfl _ _ rfl rfl F ?_; clear F))
          go_end0
          obtain ⟨q1, q2⟩ := H.out.rebuilt M3.out (st' := { st with files := insF f.abs st.files }) HRW.out (fun i e => Nat.le_trans hm.out.size (HNW.out i e)) (by rw [H.out.abs, E0.out]) HWF.out
            (fun x hx => by
              rcases mem_put hx with rfl | hx
              · exact HB.out
              · exact H.out.bytes x hx)
            (fun x hx i e => by
              rcases mem_put hx with rfl | hx
              · exact ⟨(HAP.out i e).1, (HAP.out i e).2.1⟩
              · exact ⟨(H.out.apart x hx i e).1, H.out.own x hx i e⟩)
            (pair_put k H.out.pair fun i e => (HAP.out i e).2.2)
          exact ⟨rfl, q2, _, _, q1⟩
      · have HX : ∀ h : k < fs.length, bytesBefore fs[k].name f.name = false := fun h => absurd h hlt
        by_cases hcap : k = cap
        · subst hcap
          obtain ⟨a1, n1, d1, w1, a2, n2, d2, w2, a3, n3, d3, w3, r1, r2, r3, m1, m2, m3, hrow, hnew⟩ := add_runs (cap := k) (w := wr.drew) 29 hgr H4.out H.out.oneCell f HFC.out _ hk hfl ⟨g, 0, none⟩ 0 (.inr (by omega))
          have E0 := Lib.hid (insF_at f fs _ hk hI.out HX HNE.out)
          have hw1 := H.out.kept (w' := w1) (hm.out.drew.trans m1 (fun _ e => .inl e)) (fun _ _ e => e)
          obtain ⟨-, c11, -, -, -⟩ := hw1.cells
          have hw2 := H.out.kept (w' := w2) (hm.out.drew.trans m2 (fun _ e => .inl e)) (fun _ _ e => e)
          obtain ⟨-, c12, -, -, -⟩ := hw2.cells
          have M3 := Lib.hid (hm.out.drew.trans m3 (fun _ e => .inl e))
          have hw3 := H.out.kept (w' := w3) M3.out (fun _ _ e => e)
          obtain ⟨-, c13, -, -, hfz3⟩ := hw3.cells
          have hfz31 := hfz3 1
          have hbx1 := blk_mod (w' := w1) m1 hbx.out (fun e => e)
          have b10 : w1.cell? ⟨w.heap.size, 0, none⟩ = some (.string ⟨f.name.toArray⟩) := by rw [blk_cell hbx1]; rfl
          have b11 : w1.cell? ⟨w.heap.size, 1, none⟩ = some f.v := by rw [blk_cell hbx1]; rfl
          have b12 : w1.cell? ⟨w.heap.size, 2, none⟩ = some (.int .i64 (f.safe : Int)) := by rw [blk_cell hbx1]; rfl
          unfold strV at r2
          have hz : fs.length - k = 0 := by omega
          rw [hz] at r3
          clear hz
          have R1 := Lib.hid r1
          have R2 := Lib.hid r2
          have R3 := Lib.hid r3
          have HRW := Lib.hid hrow
          have HNW := Lib.hid hnew
          clear r1 r2 r3 m1 m2 m3 hrow hnew hw1 hw2 hw3 hfz3 hbx1 hI hgr HX
          go_wp2_with fail
          go_region
          all_goals go_wp2_with (at_builtin; first | (have F := R1.out; clear R1; refine Lib.wpList_append_run_sl _ rfl _ _ 29 rfl _ _ rfl rfl F ?_; clear F) | (have F := R2.out; clear R2; refine Lib.wpList_append_run_sl _ rfl _ _ 29 rfl _ _ rfl rfl F ?_; clear F) | (have F := R3.out; clear R3; refine Lib.wpList_append_run_sl _ rfl _ _ 29 rfl _ _ rfl rfl F ?_; clear F))
          go_end0
          obtain ⟨q1, q2⟩ := H.out.rebuilt M3.out (st' := { st with files := insF f.abs st.files }) HRW.out (fun i e => Nat.le_trans hm.out.size (HNW.out i e)) (by rw [H.out.abs, E0.out]) HWF.out
            (fun x hx => by
              rcases mem_put hx with rfl | hx
              · exact HB.out
              · exact H.out.bytes x hx)
            (fun x hx i e => by
              rcases mem_put hx with rfl | hx
              · exact ⟨(HAP.out i e).1, (HAP.out i e).2.1⟩
              · exact ⟨(H.out.apart x hx i e).1, H.out.own x hx i e⟩)
            (pair_put _ H.out.pair fun i e => (HAP.out i e).2.2)
          exact ⟨rfl, q2, _, _, q1⟩
        · have hcl : k < cap := by omega
          obtain ⟨a1, n1, d1, w1, a2, n2, d2, w2, a3, n3, d3, w3, r1, r2, r3, m1, m2, m3, hrow, hnew⟩ := add_runs (cap := cap) (w := wr.drew) 29 hgr H4.out H.out.oneCell f HFC.out k hk hfl ⟨g, k * 3, none⟩ (cap - k) (.inl rfl)
          have E0 := Lib.hid (insF_at f fs k hk hI.out HX HNE.out)
          have hw1 := H.out.kept (w' := w1) (hm.out.drew.trans m1 (fun _ e => .inl e)) (fun _ _ e => e)
          obtain ⟨-, c11, -, -, -⟩ := hw1.cells
          have hw2 := H.out.kept (w' := w2) (hm.out.drew.trans m2 (fun _ e => .inl e)) (fun _ _ e => e)
          obtain ⟨-, c12, -, -, -⟩ := hw2.cells
          have M3 := Lib.hid (hm.out.drew.trans m3 (fun _ e => .inl e))
          have hw3 := H.out.kept (w' := w3) M3.out (fun _ _ e => e)
          obtain ⟨-, c13, -, -, hfz3⟩ := hw3.cells
          have hfz31 := hfz3 1
          have hbx1 := blk_mod (w' := w1) m1 hbx.out (fun e => e)
          have b10 : w1.cell? ⟨w.heap.size, 0, none⟩ = some (.string ⟨f.name.toArray⟩) := by rw [blk_cell hbx1]; rfl
          have b11 : w1.cell? ⟨w.heap.size, 1, none⟩ = some f.v := by rw [blk_cell hbx1]; rfl
          have b12 : w1.cell? ⟨w.heap.size, 2, none⟩ = some (.int .i64 (f.safe : Int)) := by rw [blk_cell hbx1]; rfl
          unfold strV at r2
          have R1 := Lib.hid r1
          have R2 := Lib.hid r2
          have R3 := Lib.hid r3
          have HRW := Lib.hid hrow
          have HNW := Lib.hid hnew
          clear r1 r2 r3 m1 m2 m3 hrow hnew hw1 hw2 hw3 hfz3 hbx1 hI hgr HX
          go_wp2_with fail
          go_region
          all_goals go_wp2_with (at_builtin; first | (have F := R1.out; clear R1; refine Lib.wpList_append_run_sl _ rfl _ _ 29 rfl _ _ rfl rfl F ?_; clear F) | (have F := R2.out; clear R2; refine Lib.wpList_append_run_sl _ rfl _ _ 29 rfl _ _ rfl rfl F ?_; clear F) | (have F := R3.out; clear R3; refine Lib.wpList_append_run_sl _ rfl _ _ 29 rfl _ _ rfl rfl F ?_; clear F))
          go_end0
          obtain ⟨q1, q2⟩ := H.out.rebuilt M3.out (st' := { st with files := insF f.abs st.files }) HRW.out (fun i e => Nat.le_trans hm.out.size (HNW.out i e)) (by rw [H.out.abs, E0.out]) HWF.out
            (fun x hx => by
              rcases mem_put hx with rfl | hx
              · exact HB.out
              · exact H.out.bytes x hx)
            (fun x hx i e => by
              rcases mem_put hx with rfl | hx
              · exact ⟨(HAP.out i e).1, (HAP.out i e).2.1⟩
              · exact ⟨(H.out.apart x hx i e).1, H.out.own x hx i e⟩)
            (pair_put k H.out.pair fun i e => (HAP.out i e).2.2)
          exact ⟨rfl, q2, _, _, q1⟩

end
end Go.Proofs.YtglkonhhknaomaaDoor
