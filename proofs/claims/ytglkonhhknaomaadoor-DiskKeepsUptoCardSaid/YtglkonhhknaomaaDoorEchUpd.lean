/- What becomes of a disk in memory when one file is turned; when a file comes, goes, is renamed. -/
import Derived.Test.YtglkonhhknaomaaDoorEchRead
namespace Go.Proofs.YtglkonhhknaomaaDoor
open Go.RowKit Go.Maps Go.WideMaps

def updR (f' : FileR) (g : FileR) : FileR := if g.name == f'.name then f' else g

section
variable {w : World} {S : Nat → Prop} {d mb : Nat} {st : DSt} {fs : List FileR}

theorem DiskAt.unique (h : DiskAt w S d mb st fs) {f g : FileR} (hf : f ∈ fs) (hg : g ∈ fs) (hn : f.name = g.name) : f = g := by
  have hp := h.names_ne
  clear h
  induction fs with
  | nil => cases hf
  | cons x r ih =>
    obtain ⟨h1, h2⟩ := List.pairwise_cons.1 hp
    rcases List.mem_cons.1 hf with hf' | hf' <;> rcases List.mem_cons.1 hg with hg' | hg'
    · rw [hf', hg']
    · rw [hf'] at hn; exact absurd hn (h1 g hg')
    · rw [hg'] at hn; exact absurd hn.symm (h1 f hf')
    · exact ih hf' hg' h2

theorem mem_upd {f' g : FileR} (h : g ∈ fs.map (updR f')) : g = f' ∨ (g ∈ fs ∧ g.name ≠ f'.name) := by
  obtain ⟨x, hx, rfl⟩ := List.mem_map.1 h
  unfold updR
  by_cases e : x.name = f'.name
  · left; simp [e]
  · right; simp [e, hx]

/-- One file has turned. -/
theorem DiskAt.change (h : DiskAt w S d mb st fs) {T : Nat → Prop} {w' : World} (hm : Mod T w w') {f f' : FileR} (hf : f ∈ fs) (hT : ∀ k, k < w.heap.size → T k → k ∈ f.blks)
    (hn : f'.name = f.name) (hb : f'.blk = f.blk) (hF : FileAt w' f') (hblk : ∀ k, f'.v.ownBlock = some k → f.v.ownBlock = some k ∨ w.heap.size ≤ k)
    (F : DFile → DFile) (hFF : f'.abs = F f.abs) (hwf : DSt.wf { st with files := chgF st.files f.name F }) :
    DiskAt w' (Plus S w w') d mb { st with files := chgF st.files f.name F } (fs.map (updR f')) ∧ Mod S w w' := by
  have hmS : Mod S w w' := hm.mono fun k hk e => h.own f hf k (hT k hk e)
  have hbl : ∀ k ∈ f'.blks, k ∈ f.blks ∨ w.heap.size ≤ k := by
    intro k hk
    simp only [FileR.blks, List.mem_cons, Option.mem_toList] at hk ⊢
    rcases hk with rfl | hk
    · exact .inl (.inl hb)
    · rcases hblk k hk with e | e
      · exact .inl (.inr e)
      · exact .inr e
  have hlt : ∀ g ∈ fs, ∀ k ∈ g.blks, k < w.heap.size := fun g hg k hk => h.inS k (h.own g hg k hk)
  have hother : ∀ g ∈ fs, g.name ≠ f'.name → (∀ k ∈ g.blks, k ∉ f.blks) := by
    intro g hg hne k hk hk2
    have hp := h.apart.pair
    have hne2 : g ≠ f := fun e => hne (by rw [e, hn])
    rcases List.append_of_mem hf with ⟨p1, p2, rfl⟩
    rw [List.pairwise_append] at hp
    obtain ⟨_, h2, h3⟩ := hp
    rcases List.mem_append.1 hg with hg | hg
    · exact h3 g hg f (by simp) k hk hk2
    · rcases List.mem_cons.1 hg with e | hg
      · exact hne2 e
      · exact (List.pairwise_cons.1 h2).1 g hg k hk2 hk
  have hdT : ¬ T d := fun e => (h.apart.out f hf d (hT d (h.inS d h.ownD) e)).1 rfl
  have hmT : ¬ T mb := fun e => (h.apart.out f hf mb (hT mb (h.inS mb h.ownM) e)).2 rfl
  refine ⟨?_, hmS⟩
  exact {
    blk := blk_mod hm h.blk hdT
    map := by
      have e : Dof (fs.map (updR f')) = Dof fs := by
        unfold Dof
        rw [List.map_map]
        congr 1
        apply List.map_congr_left
        intro g hg
        simp only [Function.comp, updR]
        by_cases e : g.name = f'.name
        · have := h.unique hg hf (e.trans hn)
          subst this
          simp [e, hb]
        · simp [e]
      rw [e, List.length_map]
      obtain ⟨es, clock, hb, r⟩ := h.map
      exact ⟨es, clock, blk_mod hm hb hmT, r⟩
    files := fun g hg => by
      rcases mem_upd hg with rfl | ⟨hg, hne⟩
      · exact hF
      · exact (h.files g hg).kept hm (fun k hk e => hother g hg hne k hk (hT k (hlt g hg k hk) e))
    apart := {
      ne := h.apart.ne
      out := fun g hg k hk => by
        rcases mem_upd hg with rfl | ⟨hg, hne⟩
        · rcases hbl k hk with e | e
          · exact h.apart.out f hf k e
          · have := h.inS d h.ownD; have := h.inS mb h.ownM; exact ⟨by omega, by omega⟩
        · exact h.apart.out g hg k hk
      pair := by
        rw [List.pairwise_map]
        refine (h.apart.pair.and h.names_ne).imp_of_mem (fun {a b} ha hb' hab => ?_)
        obtain ⟨h1, h2⟩ := hab
        unfold updR
        by_cases ea : a.name = f'.name <;> by_cases eb : b.name = f'.name
        · exact absurd (ea.trans eb.symm) h2
        · simp only [ea, beq_self_eq_true, if_true, beq_eq_false_iff_ne.2 eb, Bool.false_eq_true, if_false]
          intro k hk hk2
          rcases hbl k hk with e | e
          · exact hother b hb' eb k hk2 e
          · have := hlt b hb' k hk2; omega
        · simp only [eb, beq_self_eq_true, if_true, beq_eq_false_iff_ne.2 ea, Bool.false_eq_true, if_false]
          intro k hk hk2
          rcases hbl k hk2 with e | e
          · exact hother a ha ea k hk e
          · have := hlt a ha k hk; omega
        · simp only [beq_eq_false_iff_ne.2 ea, beq_eq_false_iff_ne.2 eb, Bool.false_eq_true, if_false]
          exact h1
      self := fun g hg => by
        rcases mem_upd hg with rfl | ⟨hg, hne⟩
        · intro e
          rw [hb] at e
          rcases hblk _ e with e | e
          · exact h.apart.self f hf e
          · have := hlt f hf f.blk (by simp [FileR.blks]); omega
        · exact h.apart.self g hg }
    ownD := .inl h.ownD
    ownM := .inl h.ownM
    own := fun g hg k hk => by
      rcases mem_upd hg with rfl | ⟨hg, hne⟩
      · rcases hbl k hk with e | e
        · exact .inl (h.own f hf k e)
        · refine .inr ⟨e, ?_⟩
          simp only [FileR.blks, List.mem_cons, Option.mem_toList] at hk
          rcases hk with rfl | hk
          · exact blk_lt hF.1
          · exact hF.2.lt k hk
      · exact .inl (h.own g hg k hk)
    inS := fun k hk => by
      rcases hk with hk | hk
      · exact Nat.lt_of_lt_of_le (h.inS k hk) hm.size
      · exact hk.2
    abs := by
      show chgF st.files f.name F = _
      rw [h.abs]
      unfold chgF
      rw [List.map_map, List.map_map]
      apply List.map_congr_left
      intro g hg
      simp only [Function.comp, updR]
      by_cases e : g.name = f.name
      · have := h.unique hg hf e
        subst this
        have e1 : g.abs.name = g.name := rfl
        simp [hn, hFF, e1]
      · have e1 : g.abs.name = g.name := rfl
        have e2 : ¬ g.name = f'.name := by rw [hn]; exact e
        simp [e, e1, e2]
    wf := hwf }

theorem lookV_ptr (fs : List FileR) (s : List UInt8) : ∃ p, lookV fs s = .pointer p := by
  unfold lookV
  split
  · exact ⟨_, rfl⟩
  · exact ⟨_, rfl⟩

/-- Both cells of a file's block are written. -/
theorem DiskAt.set2 (h : DiskAt w S d mb st fs) {f : FileR} (hf : f ∈ fs) {v' : Value} {data' : List UInt8} {safe' : Nat} (ho : OwnBytes w v' data') (hv : ∀ k, v'.ownBlock = some k → f.v.ownBlock = some k)
    (F : DFile → DFile) (hF : (⟨f.name, data', safe'⟩ : DFile) = F f.abs) (hwf : DSt.wf { st with files := chgF st.files f.name F }) :
    ∀ w', w' = (w.setCell ⟨f.blk, 0, none⟩ v').setCell ⟨f.blk, 1, none⟩ (.int .i64 (safe' : Int)) →
    DiskAt w' (Plus S w w') d mb { st with files := chgF st.files f.name F } (fs.map (updR { f with v := v', data := data', safe := safe' })) ∧ Mod S w w' := by
  intro w' hw'
  have hm : Mod (fun k => k = f.blk) w w' := by
    rw [hw']
    exact ((Mod.refl (fun k => k = f.blk) w).setCell (p := ⟨f.blk, 0, none⟩) (.inl rfl) _).setCell (p := ⟨f.blk, 1, none⟩) (.inl rfl) _
  refine h.change (f' := { f with v := v', data := data', safe := safe' }) hm hf (fun k _ e => by subst e; simp [FileR.blks]) rfl rfl ⟨?_, ?_⟩ (fun k hk => .inl (hv k hk)) F hF hwf
  · rw [hw', blk_set (blk_set (h.files f hf).1 0 v') 1]
    rfl
  · exact ho.kept hm (fun k hk e => by subst e; exact h.apart.self f hf (hv _ hk))

end
end Go.Proofs.YtglkonhhknaomaaDoor
