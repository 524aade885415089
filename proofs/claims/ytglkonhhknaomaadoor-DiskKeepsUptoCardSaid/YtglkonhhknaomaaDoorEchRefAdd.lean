/- The walks of the document's disk's add and take: its row built anew. -/
import Derived.Test.YtglkonhhknaomaaDoorEchRef1
import Derived.BigRegion
namespace Go.Proofs.YtglkonhhknaomaaDoor
open Go.RowKit Go.Maps

theorem less_before : ∀ a b : List UInt8, Op.bytesLess a b = bytesBefore a b
  | [], [] => rfl
  | [], _ :: _ => rfl
  | _ :: _, [] => rfl
  | x :: r, y :: s => by simp only [Op.bytesLess, bytesBefore, less_before r s]

theorem before_asym {a b : List UInt8} (h : bytesBefore a b = true) : bytesBefore b a = false := by
  cases e : bytesBefore b a with
  | false => rfl
  | true => have := bytesBefore_trans h e; rw [bytesBefore_irrefl] at this; cases this

theorem insF_at (f : RefR) : ∀ (fs : List RefR) (k : Nat), k ≤ fs.length → (∀ j (_ : j < k) (hl : j < fs.length), bytesBefore fs[j].name f.name = true) → (∀ h : k < fs.length, bytesBefore fs[k].name f.name = false) →
    (∀ g ∈ fs, g.name ≠ f.name) → insF f.abs (fs.map RefR.abs) = (fs.take k ++ f :: fs.drop k).map RefR.abs
  | [], k, hk, _, _, _ => by
    have : k = 0 := by simpa using hk
    subst this; rfl
  | g :: r, 0, _, _, h2, hne => by
    have h2 := h2 (by simp)
    have hb : bytesBefore f.name g.name = true := by
      rcases bytesBefore_total f.name g.name (fun e => hne g (by simp) e.symm) with e | e
      · exact e
      · simp only [List.getElem_cons_zero] at h2; rw [h2] at e; cases e
    show (if bytesBefore f.name g.name = true then _ else _) = _
    rw [if_pos hb]; rfl
  | g :: r, k + 1, hk, h1, h2, hne => by
    have hb : bytesBefore f.name g.name = false := before_asym (h1 0 (by omega) (by simp))
    have ih := insF_at f r k (by simpa using hk) (fun j hj hl => h1 (j + 1) (by omega) (by simpa using hl)) (fun h => h2 (by simpa using h)) (fun g hg => hne g (by simp [hg]))
    show (if bytesBefore f.name g.name = true then _ else _) = _
    rw [if_neg (by rw [hb]; simp)]
    show g.abs :: insF f.abs (r.map RefR.abs) = _
    rw [ih]; rfl

theorem info_file : (Tryd.prog.info? 75).map (fun i => (i.zero.map (fun z => z.cells.size), i.size, i.bytes)) = some (some 3, 3, 48) := by kernel_rfl

theorem rowOf_append (a b : List RefR) : rowOf (a ++ b) = rowOf a ++ rowOf b := by unfold rowOf; rw [List.flatMap_append]
theorem rowOf_one (fs : List RefR) (h : ∀ f ∈ fs, f.v.oneCell' = true) : ∀ u ∈ rowOf fs, u.oneCell' = true := by
  intro u hu
  unfold rowOf at hu
  obtain ⟨f, hf, hu⟩ := List.mem_flatMap.1 hu
  simp only [RefR.cells, strV, List.mem_cons, List.not_mem_nil, or_false] at hu
  rcases hu with rfl | rfl | rfl
  · rfl
  · exact h f hf
  · rfl

/-- append of files. -/
theorem append_files (w : World) (ty : TypeId) {v : Value} {l : List RefR} (h : w.ownsRow 0 75 3 v l.length (rowOf l)) {src : Value} {m : List RefR} (hs : SrcAt w 3 src m.length (rowOf m)) (hb : l.length + m.length ≤ 10000) :
    ∃ v' w', (Builtin.append_ #[29, 29] ty #[v, src]).run Tryd.prog w = .ok v' w' ∧ w'.ownsRow 0 75 3 v' (l ++ m).length (rowOf (l ++ m)) ∧ w.grownBy w' v.ownBlock ∧ (v'.ownBlock = v.ownBlock ∨ v'.ownBlock = some w.heap.size) ∧
      (∃ a n c, v' = .slice a n c) := by
  obtain ⟨i, hi, hx⟩ := Option.map_eq_some_iff.1 info_file
  simp only [Prod.mk.injEq] at hx
  obtain ⟨hz, h1, h2⟩ := hx
  obtain ⟨z, hz, hzs⟩ := Option.map_eq_some_iff.1 hz
  obtain ⟨v', w', hr, ho, hg, hk, hf⟩ := append_gen (P := Tryd.prog) w 29 ty 75 i z 3 48 Tryd.underlying29 hi hz h1 h2 hzs (by decide) v l.length (rowOf l) h src m.length (rowOf m) hs (by unfold maxLen; omega) (by omega)
  refine ⟨v', w', hr, ?_, hg, hk, ?_⟩
  · rw [List.length_append, rowOf_append]; exact ho
  · rcases ho.2 with ⟨e, _⟩ | ⟨g, cap, _, e, _⟩
    · exact ⟨_, _, _, e⟩
    · exact ⟨_, _, _, e⟩

/-- A part of a row as a source. -/
theorem row_src {w : World} {g : Nat} {cur : Array Value} {fs : List RefR} (hg : w.heap[g]? = some (.cells cur 75 (0, 0))) (h4 : cur.toList.take (fs.length * 3) = rowOf fs) (hv : ∀ f ∈ fs, f.v.oneCell' = true) (a b : Nat) (hab : a ≤ b) (hb : b ≤ fs.length) (c : Nat) :
    SrcAt w 3 (.slice (some ⟨g, a * 3, none⟩) (b - a) c) ((fs.take b).drop a).length (rowOf ((fs.take b).drop a)) := by
  have hl : ((fs.take b).drop a).length = b - a := by simp; omega
  refine ⟨by rw [rowOf_length], rowOf_one _ (fun f hf => hv f (List.mem_of_mem_take (List.mem_of_mem_drop hf))), .inr ⟨⟨g, a * 3, none⟩, c, by rw [hl], fun j u hu => ?_⟩⟩
  rw [addr_add, blk_cell hg]
  have hj : j < (b - a) * 3 := by
    have := (List.getElem?_eq_some_iff.1 hu).1
    rw [rowOf_length, hl] at this
    exact this
  have e0 : rowOf fs = rowOf (fs.take a) ++ (rowOf ((fs.take b).drop a) ++ rowOf (fs.drop b)) := by
    rw [← rowOf_append, ← rowOf_append]
    congr 1
    have h1 : fs.take a = (fs.take b).take a := by rw [List.take_take]; congr 1; omega
    rw [h1, ← List.append_assoc, List.take_append_drop, List.take_append_drop]
  have hla : (rowOf (fs.take a)).length = a * 3 := by rw [rowOf_length]; congr 1; simp; omega
  have e1 : (rowOf fs)[a * 3 + j]? = some u := by
    rw [e0, List.getElem?_append_right (by omega), hla, Nat.add_sub_cancel_left, List.getElem?_append_left (by rw [rowOf_length, hl]; exact hj)]
    exact hu
  rw [← h4, List.getElem?_take] at e1
  split at e1
  · simpa using e1
  · cases e1

theorem row_none {w : World} {m : List RefR} (h : m = []) : SrcAt w 3 (.slice none 0 0) m.length (rowOf m) := by
  subst h
  exact ⟨rfl, (fun u hu => nomatch hu), .inl ⟨rfl, rfl⟩⟩

section
variable {w : World} {S : Nat → Prop} {r : Nat} {lv : Value} {c : Int} {st : DSt} {fs : List RefR}

/-- A row that is all new, in the place of the old one. -/
theorem RefAt.rebuilt (h : RefAt w S r lv c st fs) {w1 : World} (hm : Mod Nil w w1) {lv' : Value} {fs' : List RefR} {st' : DSt} (hrow : w1.ownsRow 0 75 3 lv' fs'.length (rowOf fs'))
    (hnew : ∀ k, lv'.ownBlock = some k → w.heap.size ≤ k) (hst : st' = { st with files := fs'.map RefR.abs }) (hwf : st'.wf)
    (hb : ∀ f ∈ fs', OwnBytes w f.v f.data) (hap : ∀ f ∈ fs', ∀ k, f.v.ownBlock = some k → k ≠ r ∧ S k) (hp : fs'.Pairwise fun f g => ∀ k, f.v.ownBlock = some k → g.v.ownBlock ≠ some k) :
    RefAt (w1.setCell ⟨r, 1, none⟩ lv') (Plus S w (w1.setCell ⟨r, 1, none⟩ lv')) r lv' c st' fs' ∧ Mod S w (w1.setCell ⟨r, 1, none⟩ lv') := by
  have hr := h.inS r h.ownR
  have hm2 : Mod (fun k => k = r) w (w1.setCell ⟨r, 1, none⟩ lv') := (hm.mono (S' := fun k => k = r) (fun k _ e => e.elim)).setCell (p := ⟨r, 1, none⟩) (.inl rfl) _
  have hm3 : Mod (fun k => k = r) w1 (w1.setCell ⟨r, 1, none⟩ lv') := (Mod.refl (fun k => k = r) w1).setCell (p := ⟨r, 1, none⟩) (.inl rfl) _
  refine ⟨?_, hm2.mono fun k _ e => by subst e; exact h.ownR⟩
  exact {
    blk := by rw [blk_set (blk_mod hm h.blk (fun e => e)), hst]; rfl
    calls := by rw [hst]; exact h.calls
    row := by
      obtain ⟨hl, hrow⟩ := hrow
      refine ⟨hl, ?_⟩
      rcases hrow with e | ⟨g, cap, cur, e, hb, hg, rest⟩
      · exact .inl e
      · exact .inr ⟨g, cap, cur, e, hb, blk_mod hm3 hg (fun e' => by have := hnew g (by rw [e]; rfl); omega), rest⟩
    bytes := fun f hf => (hb f hf).kept hm2 (fun k hk => (hap f hf k hk).1)
    neR := fun e => by have := hnew r e; omega
    apart := fun f hf k hk => ⟨(hap f hf k hk).1, fun e => by
      have h1 := hnew k e
      have h2 := h.inS k (hap f hf k hk).2
      omega⟩
    pair := hp
    ownR := .inl h.ownR
    ownL := fun k hk => .inr ⟨hnew k hk, Nat.lt_of_lt_of_le (World.ownsRow.lt hrow k hk).2 hm3.size⟩
    own := fun f hf k hk => .inl (hap f hf k hk).2
    inS := fun k hk => hk.elim (fun e => Nat.lt_of_lt_of_le (h.inS k e) hm2.size) (fun e => e.2)
    abs := by rw [hst]
    wf := hwf }

end
end Go.Proofs.YtglkonhhknaomaaDoor
