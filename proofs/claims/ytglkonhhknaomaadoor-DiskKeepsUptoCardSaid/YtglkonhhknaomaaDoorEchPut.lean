/- What becomes of a disk in memory when its map is written: a name is struck, a file is laid at a name. -/
import Derived.Test.YtglkonhhknaomaaDoorEchJoin
namespace Go.Proofs.YtglkonhhknaomaaDoor
open Go.RowKit Go.Maps Go.WideMaps

def insR (f : FileR) : List FileR → List FileR
  | [] => [f]
  | g :: r => if bytesBefore f.name g.name then f :: g :: r else g :: insR f r
def delR (fs : List FileR) (s : List UInt8) : List FileR := fs.filter fun f => !(f.name == s)

theorem insR_abs (f : FileR) : ∀ fs : List FileR, (insR f fs).map FileR.abs = insF f.abs (fs.map FileR.abs)
  | [] => rfl
  | g :: r => by
    unfold insR insF
    simp only [List.map_cons]
    have e : f.abs.name = f.name := rfl
    have e2 : g.abs.name = g.name := rfl
    rw [e, e2]
    split
    · rfl
    · rw [List.map_cons, insR_abs f r]
theorem delR_abs (fs : List FileR) (s : List UInt8) : (delR fs s).map FileR.abs = delF (fs.map FileR.abs) s := by
  unfold delR delF
  rw [List.filter_map]
  rfl
theorem mem_insR {f g : FileR} : ∀ {l : List FileR}, g ∈ insR f l ↔ g = f ∨ g ∈ l
  | [] => by simp [insR]
  | x :: r => by
    unfold insR
    split
    · simp
    · simp only [List.mem_cons, mem_insR (l := r)]
      constructor
      · rintro (h | h | h)
        · exact .inr (.inl h)
        · exact .inl h
        · exact .inr (.inr h)
      · rintro (h | h | h)
        · exact .inr (.inl h)
        · exact .inl h
        · exact .inr (.inr h)
theorem insR_perm (f : FileR) : ∀ l : List FileR, (insR f l).Perm (f :: l)
  | [] => List.Perm.refl _
  | x :: r => by
    unfold insR
    split
    · exact List.Perm.refl _
    · exact ((insR_perm f r).cons x).trans (List.Perm.swap f x r)

theorem Dof_del (fs : List FileR) (s : List UInt8) : (Dof fs).del (.string s) = Dof (delR fs s) := by
  show DataW.map (List.filter (fun p => !p.1.sameKey (.string s)) (fs.map fun f => (Lit.string f.name, .lit (.int .u64 f.blk)))) = Dof (delR fs s)
  rw [List.filter_map]
  rfl
theorem insert_Dof (f : FileR) : ∀ fs : List FileR, DataW.insert (Lit.string f.name, (.lit (.int .u64 f.blk) : DataW Unit)) (fs.map fun f => (Lit.string f.name, .lit (.int .u64 f.blk))) = (insR f fs).map fun f => (Lit.string f.name, .lit (.int .u64 f.blk))
  | [] => rfl
  | g :: r => by
    have ih := insert_Dof f r
    unfold insR
    simp only [List.map_cons, DataW.insert, Lit.before]
    by_cases h : bytesBefore f.name g.name = true
    · rw [if_pos h]; exact if_pos h
    · rw [if_neg h]; exact (if_neg h).trans (by rw [ih]; rfl)
theorem Dof_put (fs : List FileR) (f : FileR) : (Dof fs).put (.string f.name) (.lit (.int .u64 f.blk)) = Dof (insR f (delR fs f.name)) := by
  have h := insert_Dof f (delR fs f.name)
  show DataW.map (DataW.insert (Lit.string f.name, .lit (.int .u64 f.blk)) (List.filter (fun p => !p.1.sameKey (.string f.name)) (fs.map fun f => (Lit.string f.name, .lit (.int .u64 f.blk))))) = _
  unfold Dof
  rw [← h, List.filter_map]
  rfl

theorem ownsMap_tight {H : Type} {w : World} {P : Program} {k : TypeId} {R : Value → Option (DataW H × List MemPlace)} {b n : Nat} {D : DataW H} (h : w.ownsMap P k R b n D) : w.ownsMap P k R b (Maps.size D) D := by
  obtain ⟨es, clock, hb, F, hs, rfl⟩ := h
  exact ⟨es, clock, hb, F, by simp [Maps.size, length_sorted], rfl⟩

section
variable {w : World} {S : Nat → Prop} {d mb : Nat} {st : DSt} {fs : List FileR}

/-- A name has been struck. -/
theorem DiskAt.del (h : DiskAt w S d mb st fs) (s : List UInt8) {w' : World} (hm : Mod (fun k => k = mb) w w') {n : Nat} (hmap : w'.ownsMap Tryd.prog 9 ptrR mb n ((Dof fs).del (.string s))) :
    DiskAt w' S d mb { st with files := delF st.files s } (delR fs s) where
  blk := blk_mod hm h.blk h.apart.ne
  map := by
    rw [Dof_del] at hmap
    have := ownsMap_tight hmap
    simpa [Maps.size, Dof] using this
  files := fun f hf => (h.files f (List.mem_filter.1 hf).1).kept hm (fun k hk e => (h.apart.out f (List.mem_filter.1 hf).1 k hk).2 e)
  apart := ⟨h.apart.ne, fun f hf => h.apart.out f (List.mem_filter.1 hf).1, h.apart.pair.filter _, fun f hf => h.apart.self f (List.mem_filter.1 hf).1⟩
  ownD := h.ownD
  ownM := h.ownM
  own := fun f hf => h.own f (List.mem_filter.1 hf).1
  inS := fun k hk => Nat.lt_of_lt_of_le (h.inS k hk) hm.size
  abs := by show delF st.files s = _; rw [h.abs, delR_abs]
  wf := h.wf.del s

/-- A file has been laid at its name. -/
theorem DiskAt.put (h : DiskAt w S d mb st fs) {T : Nat → Prop} {w' : World} (hm : Mod T w w') {f : FileR} (hT : ∀ k, k < w.heap.size → T k → k = mb ∨ k ∈ f.blks) {n : Nat} (hmap : w'.ownsMap Tryd.prog 9 ptrR mb n ((Dof fs).put (.string f.name) (.lit (.int .u64 f.blk))))
    (hF : FileAt w' f) (hself : f.v.ownBlock ≠ some f.blk) (hb : ∀ k ∈ f.blks, (S k ∧ k ≠ d ∧ k ≠ mb ∧ ∀ g ∈ fs, g.name ≠ f.name → k ∉ g.blks) ∨ w.heap.size ≤ k)
    (hwf : DSt.wf { st with files := insF f.abs (delF st.files f.name) }) :
    DiskAt w' (Plus S w w') d mb { st with files := insF f.abs (delF st.files f.name) } (insR f (delR fs f.name)) ∧ Mod S w w' := by
  have hlt : ∀ g ∈ fs, ∀ k ∈ g.blks, k < w.heap.size := fun g hg k hk => h.inS k (h.own g hg k hk)
  have hd1 := h.inS d h.ownD
  have hd2 := h.inS mb h.ownM
  have hdel : ∀ g ∈ delR fs f.name, g ∈ fs ∧ g.name ≠ f.name := fun g hg => ⟨(List.mem_filter.1 hg).1, by have := (List.mem_filter.1 hg).2; simpa using this⟩
  have hTd : ¬ T d := fun e => by
    rcases hT d hd1 e with e | e
    · exact h.apart.ne e
    · rcases hb d e with e | e
      · exact e.2.1 rfl
      · omega
  refine ⟨?_, hm.mono fun k hk e => ?_⟩
  · exact {
      blk := blk_mod hm h.blk hTd
      map := by
        rw [Dof_put] at hmap
        have := ownsMap_tight hmap
        simpa [Maps.size, Dof] using this
      files := fun g hg => by
        rcases mem_insR.1 hg with rfl | hg
        · exact hF
        · obtain ⟨h1, h2⟩ := hdel g hg
          refine (h.files g h1).kept hm (fun k hk e => ?_)
          rcases hT k (hlt g h1 k hk) e with e | e
          · exact (h.apart.out g h1 k hk).2 e
          · rcases hb k e with e | e
            · exact e.2.2.2 g h1 h2 hk
            · have := hlt g h1 k hk; omega
      apart := {
        ne := h.apart.ne
        out := fun g hg k hk => by
          rcases mem_insR.1 hg with rfl | hg
          · rcases hb k hk with e | e
            · exact ⟨e.2.1, e.2.2.1⟩
            · exact ⟨by omega, by omega⟩
          · exact h.apart.out g (hdel g hg).1 k hk
        pair := by
          refine ((insR_perm f (delR fs f.name)).pairwise_iff (fun {a b} hab k hk hk2 => hab k hk2 hk)).2 (List.pairwise_cons.2 ⟨fun g hg k hk hk2 => ?_, h.apart.pair.filter _⟩)
          obtain ⟨h1, h2⟩ := hdel g hg
          rcases hb k hk with e | e
          · exact e.2.2.2 g h1 h2 hk2
          · have := hlt g h1 k hk2; omega
        self := fun g hg => by
          rcases mem_insR.1 hg with rfl | hg
          · exact hself
          · exact h.apart.self g (hdel g hg).1 }
      ownD := .inl h.ownD
      ownM := .inl h.ownM
      own := fun g hg k hk => by
        rcases mem_insR.1 hg with rfl | hg
        · rcases hb k hk with e | e
          · exact .inl e.1
          · refine .inr ⟨e, ?_⟩
            simp only [FileR.blks, List.mem_cons, Option.mem_toList] at hk
            rcases hk with rfl | hk
            · exact blk_lt hF.1
            · exact hF.2.lt k hk
        · exact .inl (h.own g (hdel g hg).1 k hk)
      inS := fun k hk => hk.elim (fun hk => Nat.lt_of_lt_of_le (h.inS k hk) hm.size) (fun hk => hk.2)
      abs := by show insF f.abs (delF st.files f.name) = _; rw [h.abs, insR_abs, delR_abs]
      wf := hwf }
  · rcases hT k hk e with e | e
    · rw [e]; exact h.ownM
    · rcases hb k e with e | e
      · exact e.1
      · omega

end
end Go.Proofs.YtglkonhhknaomaaDoor
