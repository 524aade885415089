/- One file of the document's disk turned, where it lies. -/
import Derived.Test.YtglkonhhknaomaaDoorEchRefTake
namespace Go.Proofs.YtglkonhhknaomaaDoor
open Go.RowKit Go.Maps

theorem rowOf_cons (f : RefR) (r : List RefR) : rowOf (f :: r) = strV f.name :: f.v :: .int .i64 (f.safe : Int) :: rowOf r := rfl
theorem rowOf_set1 : ∀ (fs : List RefR) (a : Nat) (h : a < fs.length) (v : Value) (d : List UInt8), rowOf (fs.set a { fs[a] with v := v, data := d }) = (rowOf fs).set (a * 3 + 1) v
  | [], _, h, _, _ => by simp at h
  | f :: r, 0, _, v, d => rfl
  | f :: r, a + 1, h, v, d => by
    have ih := rowOf_set1 r a (by simpa using h) v d
    rw [rowOf_cons, show (a + 1) * 3 + 1 = a * 3 + 1 + 1 + 1 + 1 from by omega]
    simp only [List.set_cons_succ, List.getElem_cons_succ, rowOf_cons]
    rw [ih]
theorem rowOf_set2 : ∀ (fs : List RefR) (a : Nat) (h : a < fs.length) (s : Nat), rowOf (fs.set a { fs[a] with safe := s }) = (rowOf fs).set (a * 3 + 2) (.int .i64 (s : Int))
  | [], _, h, _ => by simp at h
  | f :: r, 0, _, s => rfl
  | f :: r, a + 1, h, s => by
    have ih := rowOf_set2 r a (by simpa using h) s
    rw [rowOf_cons, show (a + 1) * 3 + 2 = a * 3 + 2 + 1 + 1 + 1 from by omega]
    simp only [List.set_cons_succ, List.getElem_cons_succ, rowOf_cons]
    rw [ih]

theorem chgF_at : ∀ (fs : List RefR) (a : Nat) (ha : a < fs.length) (f' : RefR) (F : DFile → DFile), (fs.map RefR.abs).Pairwise (fun f g => f.name ≠ g.name) → f'.abs = F fs[a].abs → (fs.set a f').map RefR.abs = chgF (fs.map RefR.abs) fs[a].name F
  | [], _, ha, _, _, _, _ => by simp at ha
  | g :: r, 0, _, f', F, hp, hf => by
    rw [List.map_cons, List.pairwise_cons] at hp
    have h1 : (r.map RefR.abs).map (fun f => if f.name == g.name then F f else f) = r.map RefR.abs := by
      conv => rhs; rw [← List.map_id (r.map RefR.abs)]
      refine List.map_congr_left fun f hf => ?_
      have hne := hp.1 f hf
      have : (f.name == g.name) = false := by simpa using fun e => hne e.symm
      rw [this]; rfl
    show f'.abs :: r.map RefR.abs = (if g.abs.name == g.name then F g.abs else g.abs) :: (r.map RefR.abs).map (fun f => if f.name == g.name then F f else f)
    rw [h1, show (g.abs.name == g.name) = true from by simp [RefR.abs], hf]; rfl
  | g :: r, a + 1, ha, f', F, hp, hf => by
    have ha' : a < r.length := by simpa using ha
    rw [List.map_cons, List.pairwise_cons] at hp
    have ih := chgF_at r a ha' f' F hp.2 hf
    have hne : g.abs.name ≠ r[a].name := hp.1 r[a].abs (List.mem_map.2 ⟨_, List.getElem_mem _, rfl⟩)
    show g.abs :: (r.set a f').map RefR.abs = (if g.abs.name == r[a].name then F g.abs else g.abs) :: chgF (r.map RefR.abs) r[a].name F
    rw [ih, show (g.abs.name == r[a].name) = false from by simpa using hne]; rfl

section
variable {w : World} {S : Nat → Prop} {r : Nat} {lv : Value} {c : Int} {st : DSt} {fs : List RefR}

/-- Its row and its bytes behind a turn of one file. -/
theorem RefAt.change (h : RefAt w S r lv c st fs) {a : Nat} (ha : a < fs.length) {g cap : Nat} {cur cur' : Array Value} (hlv : lv = .slice (some ⟨g, 0, none⟩) fs.length cap) (hg : w.heap[g]? = some (.cells cur 75 (0, 0)))
    {w2 : World} (hm : Mod (fun k => k = g ∨ fs[a].v.ownBlock = some k) w w2) (hg2 : w2.heap[g]? = some (.cells cur' 75 (0, 0))) (f' : RefR) (hrow : cur'.toList.take (fs.length * 3) = rowOf (fs.set a f')) (hsz : cur'.size = cur.size)
    (hb : OwnBytes w2 f'.v f'.data) (hown : ∀ k, f'.v.ownBlock = some k → fs[a].v.ownBlock = some k ∨ w.heap.size ≤ k) {st' : DSt} (hst : st' = { st with files := (fs.set a f').map RefR.abs }) (hwf : st'.wf) :
    RefAt w2 (Plus S w w2) r lv c st' (fs.set a f') ∧ Mod S w w2 := by
  have hgS := h.ownL g (by rw [hlv]; rfl)
  have hfa := List.getElem_mem ha
  have hnr : g ≠ r := fun e => h.neR (by rw [hlv, ← e]; rfl)
  have hlt : g < w.heap.size := blk_lt hg
  have hrlt := h.inS r h.ownR
  have mem : ∀ f ∈ fs.set a f', f = f' ∨ ∃ i, ∃ hi : i < fs.length, i ≠ a ∧ f = fs[i] := fun f hf => by
    obtain ⟨i, hi, e⟩ := List.getElem_of_mem hf
    have hi' : i < fs.length := by simpa using hi
    rw [List.getElem_set] at e
    split at e
    · exact .inl e.symm
    · exact .inr ⟨i, hi', by omega, e.symm⟩
  have pw : ∀ i j (hi : i < fs.length) (hj : j < fs.length), i ≠ j → ∀ k, fs[i].v.ownBlock = some k → fs[j].v.ownBlock ≠ some k := fun i j hi hj hij k e1 e2 => by
    have hp := List.pairwise_iff_getElem.1 h.pair
    rcases Nat.lt_or_gt_of_ne hij with hl | hl
    · exact hp i j hi hj hl k e1 e2
    · exact hp j i hj hi hl k e2 e1
  have ownK : ∀ k, fs[a].v.ownBlock = some k → k ≠ r ∧ k ≠ g ∧ S k ∧ k < w.heap.size := fun k e =>
    ⟨(h.apart _ hfa k e).1, fun e' => (h.apart _ hfa k e).2 (by rw [hlv, e']; rfl), h.own _ hfa k e, h.inS _ (h.own _ hfa k e)⟩
  have old : ∀ i (hi : i < fs.length), i ≠ a → OwnBytes w2 fs[i].v fs[i].data := fun i hi hia => (h.bytes _ (List.getElem_mem hi)).kept hm (fun k e hk => by
    rcases hk with rfl | hk
    · exact (h.apart _ (List.getElem_mem hi) _ e).2 (by rw [hlv]; rfl)
    · exact pw i a hi ha hia k e hk)
  refine ⟨?_, hm.mono fun k _ e => by
    rcases e with rfl | e
    · exact hgS
    · exact h.own _ hfa k e⟩
  have apart' : ∀ k, f'.v.ownBlock = some k → k ≠ r ∧ k ≠ g ∧ (S k ∨ w.heap.size ≤ k) := fun k e => by
    rcases hown k e with e1 | e1
    · exact ⟨(ownK k e1).1, (ownK k e1).2.1, .inl (ownK k e1).2.2.1⟩
    · exact ⟨by omega, by omega, .inr e1⟩
  exact {
    blk := by rw [hst]; exact blk_mod hm h.blk (fun e => by
      rcases e with e | e
      · exact hnr e.symm
      · exact (ownK r e).1 rfl)
    calls := by rw [hst]; exact h.calls
    row := by
      rw [List.length_set]
      refine ⟨by rw [rowOf_length, List.length_set], .inr ⟨g, cap, cur', hlv, Nat.zero_le _, hg2, ?_⟩⟩
      rcases h.row.2 with ⟨e, _⟩ | ⟨g1, cap1, cur1, e, _, hg1, q1, q2, q3, q4⟩
      · rw [hlv] at e; cases e
      · rw [hlv] at e
        cases e
        rw [hg] at hg1
        cases hg1
        exact ⟨q1, q2, by rw [hsz]; exact q3, hrow⟩
    bytes := fun f hf => by
      rcases mem f hf with rfl | ⟨i, hi, hia, rfl⟩
      · exact hb
      · exact old i hi hia
    neR := h.neR
    apart := fun f hf k e => by
      rcases mem f hf with rfl | ⟨i, hi, hia, rfl⟩
      · exact ⟨(apart' k e).1, fun e' => (apart' k e).2.1 (by rw [hlv] at e'; exact (Option.some.inj e').symm)⟩
      · exact h.apart _ (List.getElem_mem hi) k e
    pair := by
      rw [List.pairwise_iff_getElem]
      intro i j hi hj hij k e1 e2
      have hi' : i < fs.length := by simpa using hi
      have hj' : j < fs.length := by simpa using hj
      rw [List.getElem_set] at e1 e2
      split at e1
      · split at e2
        · omega
        · rename_i hja
          rcases hown k e1 with e3 | e3
          · exact pw a j ha hj' hja k e3 e2
          · have := h.inS k (h.own _ (List.getElem_mem hj') k e2); omega
      · rename_i hia
        split at e2
        · rcases hown k e2 with e3 | e3
          · exact pw i a hi' ha (fun e => hia e.symm) k e1 e3
          · have := h.inS k (h.own _ (List.getElem_mem hi') k e1); omega
        · exact pw i j hi' hj' (by omega) k e1 e2
    ownR := .inl h.ownR
    ownL := fun k e => .inl (h.ownL k e)
    own := fun f hf k e => by
      rcases mem f hf with rfl | ⟨i, hi, hia, rfl⟩
      · rcases (apart' k e).2.2 with e1 | e1
        · exact .inl e1
        · exact .inr ⟨e1, hb.lt k e⟩
      · exact .inl (h.own _ (List.getElem_mem hi) k e)
    inS := fun k hk => hk.elim (fun e => Nat.lt_of_lt_of_le (h.inS k e) hm.size) (fun e => e.2)
    abs := by rw [hst]
    wf := hwf }

/-- Its bytes stored anew. -/
theorem RefAt.setB (h : RefAt w S r lv c st fs) {a : Nat} (ha : a < fs.length) {g cap : Nat} (hlv : lv = .slice (some ⟨g, 0, none⟩) fs.length cap) {w1 : World} (hm : Mod (fun k => fs[a].v.ownBlock = some k) w w1) (v : Value) (d : List UInt8) (hb : OwnBytes w1 v d)
    (hown : ∀ k, v.ownBlock = some k → fs[a].v.ownBlock = some k ∨ w.heap.size ≤ k) {F : DFile → DFile} (hF : F fs[a].abs = { fs[a].abs with data := d }) (hwf : DSt.wf { st with files := chgF st.files fs[a].name F }) :
    RefAt (w1.setCell ⟨g, a * 3 + 1, none⟩ v) (Plus S w (w1.setCell ⟨g, a * 3 + 1, none⟩ v)) r lv c { st with files := chgF st.files fs[a].name F } (fs.set a { fs[a] with v := v, data := d }) ∧ Mod S w (w1.setCell ⟨g, a * 3 + 1, none⟩ v) := by
  have hfa := List.getElem_mem ha
  rcases h.form with ⟨e, _⟩ | ⟨g', cap', cur, e, hg, q1, q2, q3, q4⟩
  · rw [hlv] at e; cases e
  have e := hlv.symm.trans e
  cases e
  have hnn : ∀ k, fs[a].v.ownBlock = some k → k ≠ g := fun k e e' => (h.apart _ hfa k e).2 (by rw [hlv, e']; rfl)
  have hlt := blk_lt hg
  have hg1 := blk_mod hm hg (fun e => hnn g e rfl)
  refine h.change ha hlv hg ((hm.mono (S' := fun k => k = g ∨ fs[a].v.ownBlock = some k) fun k _ e => Or.inr e).setCell (p := ⟨g, a * 3 + 1, none⟩) (.inl (.inl rfl)) _) (blk_set hg1 _ _) { fs[a] with v := v, data := d } ?_ (by simp)
    (hb.kept ((Mod.refl (fun k => k = g) w1).setCell (p := ⟨g, a * 3 + 1, none⟩) (.inl rfl) _) (fun k e e' => by
      rcases hown k e with e1 | e1
      · exact hnn k e1 e'
      · omega)) hown ?_ hwf
  · rw [rowOf_set1, ← q4, Array.toList_setIfInBounds, List.take_set]
  · rw [chgF_at fs a ha _ F (by rw [← h.abs]; exact h.wf.names_ne) hF.symm, h.abs]

/-- How many are safe, stored anew. -/
theorem RefAt.setSafe (h : RefAt w S r lv c st fs) {a : Nat} (ha : a < fs.length) {g cap : Nat} (hlv : lv = .slice (some ⟨g, 0, none⟩) fs.length cap) (s : Nat) {F : DFile → DFile} (hF : F fs[a].abs = { fs[a].abs with safe := s }) (hwf : DSt.wf { st with files := chgF st.files fs[a].name F }) :
    RefAt (w.setCell ⟨g, a * 3 + 2, none⟩ (.int .i64 (s : Int))) S r lv c { st with files := chgF st.files fs[a].name F } (fs.set a { fs[a] with safe := s }) ∧ Mod S w (w.setCell ⟨g, a * 3 + 2, none⟩ (.int .i64 (s : Int))) := by
  have hfa := List.getElem_mem ha
  rcases h.form with ⟨e, _⟩ | ⟨g', cap', cur, e, hg, q1, q2, q3, q4⟩
  · rw [hlv] at e; cases e
  have e := hlv.symm.trans e
  cases e
  have hnn : ∀ k, fs[a].v.ownBlock = some k → k ≠ g := fun k e e' => (h.apart _ hfa k e).2 (by rw [hlv, e']; rfl)
  obtain ⟨g1, g2⟩ := h.change ha hlv hg ((Mod.refl (fun k => k = g ∨ fs[a].v.ownBlock = some k) w).setCell (p := ⟨g, a * 3 + 2, none⟩) (.inl (.inl rfl)) (.int .i64 (s : Int))) (blk_set hg _ _) { fs[a] with safe := s } (by rw [rowOf_set2, ← q4, Array.toList_setIfInBounds, List.take_set]) (by simp)
    ((h.bytes _ hfa).kept ((Mod.refl (fun k => k = g) w).setCell (p := ⟨g, a * 3 + 2, none⟩) (.inl rfl) _) (fun k e e' => hnn k e e')) (fun k e => .inl e)
    (st' := { st with files := chgF st.files fs[a].name F }) (by rw [chgF_at fs a ha _ F (by rw [← h.abs]; exact h.wf.names_ne) hF.symm, h.abs]) hwf
  refine ⟨g1.bigger (S' := S) (fun k hk => hk.elim id (fun e => ?_)) (fun k hk => Nat.lt_of_lt_of_le (h.inS k hk) g2.size), g2⟩
  have : (w.setCell ⟨g, a * 3 + 2, none⟩ (.int .i64 (s : Int))).heap.size = w.heap.size := by simp [World.setCell]
  have h1 := e.1
  have h2 := e.2
  rw [this] at h2
  omega

end
end Go.Proofs.YtglkonhhknaomaaDoor
