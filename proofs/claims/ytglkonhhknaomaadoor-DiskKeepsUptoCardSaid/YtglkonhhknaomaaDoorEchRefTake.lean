/- The walk of the document's disk's take. -/
import Derived.Test.YtglkonhhknaomaaDoorEchRefAdd2
import Derived.Test.YtglkonhhknaomaaDoorEchAppend2
namespace Go.Proofs.YtglkonhhknaomaaDoor
open Go.RowKit Go.Maps

/-- The two appends of take. -/
theorem take_runs (ty : TypeId) {w : World} {g cap : Nat} {cur : Array Value} {fs : List RefR} (hg : w.heap[g]? = some (.cells cur 75 (0, 0))) (h4 : cur.toList.take (fs.length * 3) = rowOf fs) (hv : ∀ f ∈ fs, f.v.oneCell' = true)
    (k : Nat) (hk : k < fs.length) (hfl : fs.length ≤ 4096) (p : Addr) (e3 : Nat) (hp : p = ⟨g, (k + 1) * 3, none⟩ ∨ k + 1 = fs.length) :
    ∃ a1 n1 c1 w1 a3 n3 c3 w3,
      (Builtin.append_ #[29, 29] ty #[.slice none 0 0, .slice (some ⟨g, 0, none⟩) k cap]).run Tryd.prog w = .ok (.slice a1 n1 c1) w1 ∧
      (Builtin.append_ #[29, 29] ty #[.slice a1 n1 c1, .slice (some p) (fs.length - (k + 1)) e3]).run Tryd.prog w1 = .ok (.slice a3 n3 c3) w3 ∧
      Mod Nil w w1 ∧ Mod Nil w w3 ∧ RowW w3 (.slice a3 n3 c3) (fs.take k ++ fs.drop (k + 1)) ∧ ∀ k, (Value.slice a3 n3 c3).ownBlock = some k → w.heap.size ≤ k := by
  have hs1 := row_src hg h4 hv 0 k (Nat.zero_le _) (Nat.le_of_lt hk) cap
  simp only [Nat.zero_mul, Nat.sub_zero, List.drop_zero] at hs1
  obtain ⟨a1, n1, c1, w1, hr1, ho1, hm1, hn1, -⟩ := step_app w w (Mod.refl Nil w) ty (row_nil w) (fun k e => nomatch e) hs1 (by simp; omega)
  rw [List.nil_append] at ho1
  have hs3 : SrcAt w1 3 (.slice (some p) (fs.length - (k + 1)) e3) (fs.drop (k + 1)).length (rowOf (fs.drop (k + 1))) := by
    rcases hp with rfl | he
    · have hs3 := row_src (blk_mod hm1 hg (fun e => e)) h4 hv (k + 1) fs.length hk (Nat.le_refl _) e3
      rw [List.take_length] at hs3
      exact hs3
    · rw [he]
      refine ⟨by rw [List.drop_length]; rfl, fun u hu => ?_, .inr ⟨p, e3, by rw [List.length_drop], fun j u hu => ?_⟩⟩
      · rw [List.drop_length] at hu; exact nomatch hu
      · rw [List.drop_length] at hu; exact nomatch hu
  obtain ⟨a3, n3, c3, w3, hr3, ho3, hm3, hn3, -⟩ := step_app w _ hm1 ty ho1 hn1 hs3 (by simp; omega)
  exact ⟨a1, n1, c1, w1, a3, n3, c3, w3, hr1, hr3, hm1, hm3, ho3, hn3⟩

theorem delF_at : ∀ (fs : List RefR) (k : Nat) (hk : k < fs.length), (fs.map RefR.abs).Pairwise (fun f g => f.name ≠ g.name) → delF (fs.map RefR.abs) fs[k].name = (fs.take k ++ fs.drop (k + 1)).map RefR.abs
  | [], k, hk, _ => by simp at hk
  | g :: r, 0, _, hp => by
    rw [List.map_cons, List.pairwise_cons] at hp
    have h1 : (r.map RefR.abs).filter (fun f => !(f.name == g.name)) = r.map RefR.abs := by
      rw [List.filter_eq_self]
      intro f hf
      have := hp.1 f hf
      simp only [Bool.not_eq_true', beq_eq_false_iff_ne]
      exact fun e => this e.symm
    show List.filter _ (g.abs :: r.map RefR.abs) = _
    rw [List.filter_cons_of_neg (by simp [RefR.abs])]
    exact h1
  | g :: r, k + 1, hk, hp => by
    rw [List.map_cons, List.pairwise_cons] at hp
    have hk' : k < r.length := by simpa using hk
    have ih := delF_at r k (by simpa using hk) hp.2
    have hne : g.abs.name ≠ r[k].name := hp.1 r[k].abs (List.mem_map.2 ⟨_, List.getElem_mem _, rfl⟩)
    show List.filter _ (g.abs :: r.map RefR.abs) = _
    rw [List.filter_cons_of_pos (by simpa using hne)]
    show g.abs :: delF (r.map RefR.abs) r[k].name = _
    rw [ih]; rfl

section
variable {w : World} {S : Nat → Prop} {r : Nat} {lv : Value} {c : Int} {st : DSt} {fs : List RefR}

theorem pair_del {fs : List RefR} (k : Nat) (h : fs.Pairwise fun f g => ∀ k, f.v.ownBlock = some k → g.v.ownBlock ≠ some k) :
    (fs.take k ++ fs.drop (k + 1)).Pairwise fun f g => ∀ k, f.v.ownBlock = some k → g.v.ownBlock ≠ some k := by
  have : (fs.take k ++ fs.drop (k + 1)).Sublist fs := by
    conv => rhs; rw [← List.take_append_drop k fs]
    exact List.Sublist.append (List.Sublist.refl _) (by rw [← List.drop_drop]; exact List.drop_sublist _ _)
  exact h.sublist this
theorem mem_del {fs : List RefR} {x : RefR} {k : Nat} (h : x ∈ fs.take k ++ fs.drop (k + 1)) : x ∈ fs := by
  rcases List.mem_append.1 h with h | h
  · exact List.mem_of_mem_take h
  · exact List.mem_of_mem_drop h

/-- What take comes to. -/
def TakeOut (w : World) (S : Nat → Prop) (r : Nat) (c : Int) (st : DSt) (fs : List RefR) (k : Nat) (f : RefR) (e : Ending) (w' : World) : Prop :=
  e = .returned f.val ∧ Mod S w w' ∧ Mod (fun i => i = r) w w' ∧ OwnBytes w' f.v f.data ∧ ∃ lv', RefAt w' (Plus S w w') r lv' c { st with files := delF st.files f.name } (fs.take k ++ fs.drop (k + 1))

theorem take_done {w : World} {S : Nat → Prop} {r : Nat} {lv : Value} {c : Int} {st : DSt} {fs : List RefR} (h : RefAt w S r lv c st fs) {wc w3 : World} (hmc : Mod Nil w wc) (hsz : w.heap.size < wc.heap.size) (m3 : Mod Nil wc w3) {k : Nat} (hk : k < fs.length) {lv' : Value} (hrow : RowW w3 lv' (fs.take k ++ fs.drop (k + 1)))
    (hnew : ∀ k, lv'.ownBlock = some k → wc.heap.size ≤ k) (hd : delF (fs.map RefR.abs) fs[k].name = (fs.take k ++ fs.drop (k + 1)).map RefR.abs) (u0 u1 u2 : Value) :
    TakeOut w S r c st fs k fs[k] (.returned fs[k].val) ((((w3.setCell ⟨r, 1, none⟩ lv').setCell ⟨w.heap.size, 0, none⟩ u0).setCell ⟨w.heap.size, 1, none⟩ u1).setCell ⟨w.heap.size, 2, none⟩ u2) := by
  have hc := h.kept hmc (fun _ _ e => e)
  have hst : ({ st with files := delF st.files fs[k].name } : DSt) = { st with files := (fs.take k ++ fs.drop (k + 1)).map RefR.abs } := by rw [h.abs, hd]
  obtain ⟨q1, q2⟩ := hc.rebuilt m3 hrow hnew hst (h.wf.del _) (fun f hf => hc.bytes f (mem_del hf)) (fun f hf i e => ⟨(hc.apart f (mem_del hf) i e).1, hc.own f (mem_del hf) i e⟩) (pair_del k hc.pair)
  have hmz : Mod (fun i => i = w.heap.size) (w3.setCell ⟨r, 1, none⟩ lv') ((((w3.setCell ⟨r, 1, none⟩ lv').setCell ⟨w.heap.size, 0, none⟩ u0).setCell ⟨w.heap.size, 1, none⟩ u1).setCell ⟨w.heap.size, 2, none⟩ u2) :=
    (((Mod.refl (fun i => i = w.heap.size) _).setCell (p := ⟨w.heap.size, 0, none⟩) (.inl rfl) _).setCell (p := ⟨w.heap.size, 1, none⟩) (.inl rfl) _).setCell (p := ⟨w.heap.size, 2, none⟩) (.inl rfl) _
  have q3 := q1.kept hmz (fun i hi e => by
    rcases hi with hi | hi
    · have := h.inS i hi; omega
    · omega)
  have hmS := (hmc.mono (S' := S) (fun _ _ e => e.elim)).trans q2 (fun _ e => .inl e)
  have hmq : Mod (fun i => i = r) w ((((w3.setCell ⟨r, 1, none⟩ lv').setCell ⟨w.heap.size, 0, none⟩ u0).setCell ⟨w.heap.size, 1, none⟩ u1).setCell ⟨w.heap.size, 2, none⟩ u2) :=
    ((((((hmc.trans m3 (fun _ e => .inl e)).mono (S' := fun i => i = r) (fun _ _ e => e.elim)).setCell (p := ⟨r, 1, none⟩) (.inl rfl) _).setCell (p := ⟨w.heap.size, 0, none⟩) (.inr (Nat.le_refl _)) _).setCell (p := ⟨w.heap.size, 1, none⟩) (.inr (Nat.le_refl _)) _).setCell (p := ⟨w.heap.size, 2, none⟩) (.inr (Nat.le_refl _)) _)
  refine ⟨rfl, hmS.trans hmz (fun i e => .inr (Nat.le_of_eq e.symm)), hmq, (h.bytes _ (List.getElem_mem hk)).kept hmq (fun i e => (h.apart _ (List.getElem_mem hk) i e).1), _, q3.bigger (fun i hi => ?_) (fun i hi => ?_)⟩
  · rcases hi with hi | hi
    · exact .inl hi
    · exact .inr ⟨Nat.le_trans hmc.size hi.1, Nat.lt_of_lt_of_le hi.2 hmz.size⟩
  · rcases hi with hi | hi
    · exact Nat.lt_of_lt_of_le (h.inS i hi) hmq.size
    · exact hi.2

set_option maxRecDepth 100000 in
set_option maxHeartbeats 2000000 in
theorem refTake_any (h : RefAt w S r lv c st fs) (k : Nat) (hk : k < fs.length) :
    Calls Tryd.prog 40 #[.pointer (some ⟨r, 0, none⟩), .int .i64 (k : Int)] w (TakeOut w S r c st fs k fs[k]) := by
  have hcount := h.wf.count
  have hlen := h.len
  have hfl : fs.length ≤ 4096 := by omega
  have H := Lib.hid h
  obtain ⟨-, c0, -, -, -⟩ := h.cells
  rcases h.form with ⟨rfl, rfl⟩ | ⟨g, cap, cur, rfl, hg, h1, h2, h3, h4⟩
  · simp at hk
  have hdel := delF_at fs k hk (by rw [← h.abs]; exact h.wf.names_ne)
  obtain ⟨va, vn, vc, hv⟩ := (h.bytes fs[k] (List.getElem_mem hk)).slice
  have hrlt := h.inS r h.ownR
  have hglt := blk_lt hg
  obtain ⟨wb, hwb⟩ : ∃ wb, w.alloc (.cells #[.string ⟨#[]⟩, .slice none 0 0, .int .i64 0] 75) = wb := ⟨_, rfl⟩
  obtain ⟨wc, hwc⟩ : ∃ wc, (w.alloc (.cells #[.string ⟨#[]⟩, .slice none 0 0, .int .i64 0] 75)).alloc (.cells #[.string ⟨fs[k].name.toArray⟩, .slice va vn vc, .int .i64 (fs[k].safe : Int)] 75) = wc := ⟨_, rfl⟩
  have hmb : Mod Nil w wb := by rw [← hwb]; exact (Mod.refl Nil w).alloc _
  have hmc : Mod Nil w wc := by rw [← hwc]; exact ((Mod.refl Nil w).alloc _).alloc _
  have hnc : wc.heap[w.heap.size + 1]? = some (.cells #[.string ⟨fs[k].name.toArray⟩, .slice va vn vc, .int .i64 (fs[k].safe : Int)] 75 (0, 0)) := by
    rw [← hwc]
    have := blk_new (w.alloc (.cells #[.string ⟨#[]⟩, .slice none 0 0, .int .i64 0] 75)) (.cells #[.string ⟨fs[k].name.toArray⟩, .slice va vn vc, .int .i64 (fs[k].safe : Int)] 75)
    simpa using this
  have hra : wc.heap[w.heap.size]? = some (.cells #[.string ⟨#[]⟩, .slice none 0 0, .int .i64 0] 75 (0, 0)) := by
    rw [← hwc]
    exact blk_alloc (blk_new w _)
  obtain ⟨-, c1, -, -, -⟩ := (H.out.kept hmb (fun _ _ e => e)).cells
  obtain ⟨-, c2, -, -, -⟩ := (H.out.kept hmc (fun _ _ e => e)).cells
  obtain ⟨k0, k1, k2⟩ := row_cell (blk_mod hmb hg (fun e => e)) h4 k hk
  rw [hv] at k1
  have hgc := blk_mod hmc hg (fun e => e)
  have HR := Lib.hid hg
  have H4 := Lib.hid h4
  have HD := Lib.hid hdel
  have HV := Lib.hid hv
  have HMC := Lib.hid hmc
  have HNC := Lib.hid hnc
  have HRA := Lib.hid hra
  unfold strV at k0
  clear h hcount hlen hdel hg h4 hmb hmc hnc hra c0 hv
  subst hwb
  subst hwc
  by_cases hcap : k + 1 = cap
  · subst hcap
    obtain ⟨a1, n1, d1, w1, a3, n3, d3, w3, r1, r3, m1, m3, hrow, hnew⟩ := take_runs (cap := k + 1) 29 hgc H4.out H.out.oneCell k hk hfl ⟨g, 0, none⟩ 0 (.inr (by omega))
    have M1 := HMC.out.trans m1 (fun _ e => .inl e)
    have M3 := HMC.out.trans m3 (fun _ e => .inl e)
    obtain ⟨-, c11, -, -, -⟩ := (H.out.kept M1 (fun _ _ e => e)).cells
    obtain ⟨-, c13, -, -, hfz3⟩ := (H.out.kept M3 (fun _ _ e => e)).cells
    have hfz31 := hfz3 1
    have hnc3 := blk_mod m3 HNC.out (fun e => e)
    have hra3 := blk_mod m3 HRA.out (fun e => e)
    have hne1 : w.heap.size + 1 ≠ r := by omega
    have hne2 : w.heap.size ≠ r := by omega
    have b0 : (w3.setCell ⟨r, 1, none⟩ (.slice a3 n3 d3)).cell? ⟨w.heap.size + 1, 0, none⟩ = some (.string ⟨fs[k].name.toArray⟩) := by rw [blk_cell (by rw [blk_set_other hne1]; exact hnc3)]; rfl
    have b1 : (w3.setCell ⟨r, 1, none⟩ (.slice a3 n3 d3)).cell? ⟨w.heap.size + 1, 1, none⟩ = some (.slice va vn vc) := by rw [blk_cell (by rw [blk_set_other hne1]; exact hnc3)]; rfl
    have b2 : (w3.setCell ⟨r, 1, none⟩ (.slice a3 n3 d3)).cell? ⟨w.heap.size + 1, 2, none⟩ = some (.int .i64 (fs[k].safe : Int)) := by rw [blk_cell (by rw [blk_set_other hne1]; exact hnc3)]; rfl
    have hra4 : (w3.setCell ⟨r, 1, none⟩ (.slice a3 n3 d3)).heap[w.heap.size]? = some (.cells #[.string ⟨#[]⟩, .slice none 0 0, .int .i64 0] 75 (0, 0)) := by rw [blk_set_other hne2]; exact hra3
    have z0 : (w3.setCell ⟨r, 1, none⟩ (.slice a3 n3 d3)).cell? ⟨w.heap.size, 0, none⟩ = some (.string ⟨#[]⟩) := by rw [blk_cell hra4]; rfl
    have z1 : (w3.setCell ⟨r, 1, none⟩ (.slice a3 n3 d3)).cell? ⟨w.heap.size, 1, none⟩ = some (.slice none 0 0) := by rw [blk_cell hra4]; rfl
    have z2 : (w3.setCell ⟨r, 1, none⟩ (.slice a3 n3 d3)).cell? ⟨w.heap.size, 2, none⟩ = some (.int .i64 0) := by rw [blk_cell hra4]; rfl
    have y0 := blk_frozen hra4 0
    have y1 := blk_frozen hra4 1
    have y2 := blk_frozen hra4 2
    have hra5 : Hid (((((w3.setCell ⟨r, 1, none⟩ (.slice a3 n3 d3)).setCell ⟨w.heap.size, 0, none⟩ (.string ⟨fs[k].name.toArray⟩)).setCell ⟨w.heap.size, 1, none⟩ (.slice va vn vc)).setCell ⟨w.heap.size, 2, none⟩ (.int .i64 (fs[k].safe : Int))).heap[w.heap.size]? = some (.cells #[.string ⟨fs[k].name.toArray⟩, .slice va vn vc, .int .i64 (fs[k].safe : Int)] 75 (0, 0))) := by
      show _ = _
      rw [blk_set (blk_set (blk_set hra4 0 _) 1 _) 2 _]
      rfl
    clear hra4
    have HX3 := Lib.hid m3
    have R1 := Lib.hid r1
    have hz : fs.length - (k + 1) = 0 := by omega
    rw [hz] at r3
    clear hz
    have R3 := Lib.hid r3
    have HRW := Lib.hid hrow
    have HNW := Lib.hid hnew
    have HM3 := Lib.hid M3
    clear r1 r3 m1 m3 hrow hnew hfz3 hnc3 hra3 M1 M3 hgc HR
    go_enter Tryd.func40, Tryd.ntmps40
    go_wp2_with (at_builtin; first | (have F := R1.out; clear R1; refine Lib.wpList_append_run_sl _ rfl _ _ 29 rfl _ _ rfl rfl F ?_; clear F) | (have F := R3.out; clear R3; refine Lib.wpList_append_run_sl _ rfl _ _ 29 rfl _ _ rfl rfl F ?_; clear F))
    (try simp only [Exit.inBlock, Exit.then])
    refine bodyPost_ret (results_cell_row rfl _ _ w.heap.size 75 _ (0, 0) _ rfl hra5.out Tryd.underlying75 rfl (by kernel_rfl)) rfl ?_
    have hd := take_done H.out HMC.out (by simp; try omega) HX3.out hk HRW.out HNW.out HD.out (.string ⟨fs[k].name.toArray⟩) (.slice va vn vc) (.int .i64 (fs[k].safe : Int))
    refine (show Value.agg #[.string ⟨fs[k].name.toArray⟩, .slice va vn vc, .int .i64 (fs[k].safe : Int)] = fs[k].val from by unfold RefR.val strV; rw [HV.out]) ▸ hd
  · have hcl : k + 1 < cap := by omega
    obtain ⟨a1, n1, d1, w1, a3, n3, d3, w3, r1, r3, m1, m3, hrow, hnew⟩ := take_runs (cap := cap) 29 hgc H4.out H.out.oneCell k hk hfl ⟨g, (k + 1) * 3, none⟩ (cap - (k + 1)) (.inl rfl)
    have M1 := HMC.out.trans m1 (fun _ e => .inl e)
    have M3 := HMC.out.trans m3 (fun _ e => .inl e)
    obtain ⟨-, c11, -, -, -⟩ := (H.out.kept M1 (fun _ _ e => e)).cells
    obtain ⟨-, c13, -, -, hfz3⟩ := (H.out.kept M3 (fun _ _ e => e)).cells
    have hfz31 := hfz3 1
    have hnc3 := blk_mod m3 HNC.out (fun e => e)
    have hra3 := blk_mod m3 HRA.out (fun e => e)
    have hne1 : w.heap.size + 1 ≠ r := by omega
    have hne2 : w.heap.size ≠ r := by omega
    have b0 : (w3.setCell ⟨r, 1, none⟩ (.slice a3 n3 d3)).cell? ⟨w.heap.size + 1, 0, none⟩ = some (.string ⟨fs[k].name.toArray⟩) := by rw [blk_cell (by rw [blk_set_other hne1]; exact hnc3)]; rfl
    have b1 : (w3.setCell ⟨r, 1, none⟩ (.slice a3 n3 d3)).cell? ⟨w.heap.size + 1, 1, none⟩ = some (.slice va vn vc) := by rw [blk_cell (by rw [blk_set_other hne1]; exact hnc3)]; rfl
    have b2 : (w3.setCell ⟨r, 1, none⟩ (.slice a3 n3 d3)).cell? ⟨w.heap.size + 1, 2, none⟩ = some (.int .i64 (fs[k].safe : Int)) := by rw [blk_cell (by rw [blk_set_other hne1]; exact hnc3)]; rfl
    have hra4 : (w3.setCell ⟨r, 1, none⟩ (.slice a3 n3 d3)).heap[w.heap.size]? = some (.cells #[.string ⟨#[]⟩, .slice none 0 0, .int .i64 0] 75 (0, 0)) := by rw [blk_set_other hne2]; exact hra3
    have z0 : (w3.setCell ⟨r, 1, none⟩ (.slice a3 n3 d3)).cell? ⟨w.heap.size, 0, none⟩ = some (.string ⟨#[]⟩) := by rw [blk_cell hra4]; rfl
    have z1 : (w3.setCell ⟨r, 1, none⟩ (.slice a3 n3 d3)).cell? ⟨w.heap.size, 1, none⟩ = some (.slice none 0 0) := by rw [blk_cell hra4]; rfl
    have z2 : (w3.setCell ⟨r, 1, none⟩ (.slice a3 n3 d3)).cell? ⟨w.heap.size, 2, none⟩ = some (.int .i64 0) := by rw [blk_cell hra4]; rfl
    have y0 := blk_frozen hra4 0
    have y1 := blk_frozen hra4 1
    have y2 := blk_frozen hra4 2
    have hra5 : Hid (((((w3.setCell ⟨r, 1, none⟩ (.slice a3 n3 d3)).setCell ⟨w.heap.size, 0, none⟩ (.string ⟨fs[k].name.toArray⟩)).setCell ⟨w.heap.size, 1, none⟩ (.slice va vn vc)).setCell ⟨w.heap.size, 2, none⟩ (.int .i64 (fs[k].safe : Int))).heap[w.heap.size]? = some (.cells #[.string ⟨fs[k].name.toArray⟩, .slice va vn vc, .int .i64 (fs[k].safe : Int)] 75 (0, 0))) := by
      show _ = _
      rw [blk_set (blk_set (blk_set hra4 0 _) 1 _) 2 _]
      rfl
    clear hra4
    have HX3 := Lib.hid m3
    have R1 := Lib.hid r1
    have R3 := Lib.hid r3
    have HRW := Lib.hid hrow
    have HNW := Lib.hid hnew
    have HM3 := Lib.hid M3
    clear r1 r3 m1 m3 hrow hnew hfz3 hnc3 hra3 M1 M3 hgc HR
    go_enter Tryd.func40, Tryd.ntmps40
    go_wp2_with (at_builtin; first | (have F := R1.out; clear R1; refine Lib.wpList_append_run_sl _ rfl _ _ 29 rfl _ _ rfl rfl F ?_; clear F) | (have F := R3.out; clear R3; refine Lib.wpList_append_run_sl _ rfl _ _ 29 rfl _ _ rfl rfl F ?_; clear F))
    (try simp only [Exit.inBlock, Exit.then])
    refine bodyPost_ret (results_cell_row rfl _ _ w.heap.size 75 _ (0, 0) _ rfl hra5.out Tryd.underlying75 rfl (by kernel_rfl)) rfl ?_
    have hd := take_done H.out HMC.out (by simp; try omega) HX3.out hk HRW.out HNW.out HD.out (.string ⟨fs[k].name.toArray⟩) (.slice va vn vc) (.int .i64 (fs[k].safe : Int))
    refine (show Value.agg #[.string ⟨fs[k].name.toArray⟩, .slice va vn vc, .int .i64 (fs[k].safe : Int)] = fs[k].val from by unfold RefR.val strV; rw [HV.out]) ▸ hd

end
end Go.Proofs.YtglkonhhknaomaaDoor
