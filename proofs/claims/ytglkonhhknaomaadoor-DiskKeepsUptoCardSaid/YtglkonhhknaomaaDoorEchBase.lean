/- Ground words for the proofs of this seat: 'Mod', which blocks a call may have turned; bytes in memory; a map of names to blocks. -/
import Derived.Test.YtglkonhhknaomaaDoorProg
import Derived.WalkKit
import Derived.WalkSpells
import Derived.WalkLawsBesides
import Derived.Lib.Hide
import Derived.Maps.OwnSet
import Derived.Maps.Range
import Derived.Maps.RangeWalk
namespace Go.Proofs.YtglkonhhknaomaaDoor
open Go.RowKit Go.Maps

/-! ### which blocks a call may turn -/
/-- Of the blocks that lay in w at most those of S have turned. -/
structure Mod (S : Nat → Prop) (w w' : World) : Prop where
  os : w'.os = w.os
  tape : w'.tape = w.tape
  output : w'.output = w.output
  size : w.heap.size ≤ w'.heap.size
  block : ∀ k, k < w.heap.size → ¬ S k → w'.heap[k]? = w.heap[k]?

/-- S, and what is new. -/
def Plus (S : Nat → Prop) (w w' : World) : Nat → Prop := fun k => S k ∨ (w.heap.size ≤ k ∧ k < w'.heap.size)
def Nil : Nat → Prop := fun _ => False

theorem Mod.refl (S : Nat → Prop) (w : World) : Mod S w w := ⟨rfl, rfl, rfl, Nat.le_refl _, fun _ _ _ => rfl⟩
theorem Mod.trans {S S' : Nat → Prop} {a b c : World} (h : Mod S a b) (k : Mod S' b c) (hs : ∀ i, S' i → S i ∨ a.heap.size ≤ i) : Mod S a c :=
  ⟨k.os.trans h.os, k.tape.trans h.tape, k.output.trans h.output, Nat.le_trans h.size k.size, fun i hi hn =>
    (k.block i (Nat.lt_of_lt_of_le hi h.size) (fun e => by rcases hs i e with e | e; exact hn e; omega)).trans (h.block i hi hn)⟩
theorem Mod.mono {S S' : Nat → Prop} {a b : World} (h : Mod S a b) (hs : ∀ i, i < a.heap.size → S i → S' i) : Mod S' a b :=
  ⟨h.os, h.tape, h.output, h.size, fun i hi hn => h.block i hi (fun e => hn (hs i hi e))⟩
theorem Mod.drew {S : Nat → Prop} {a w : World} (h : Mod S a w) : Mod S a w.drew := ⟨h.os, h.tape, h.output, h.size, h.block⟩
theorem Mod.drewN {S : Nat → Prop} {a w : World} (h : Mod S a w) (n : Nat) : Mod S a (w.drewN n) := ⟨h.os, h.tape, h.output, h.size, h.block⟩
theorem Mod.alloc {S : Nat → Prop} {a w : World} (h : Mod S a w) (o : Obj) : Mod S a (w.alloc o) :=
  ⟨h.os, h.tape, h.output, Nat.le_trans h.size (by simp), fun i hi hn => by
    rw [Below.heap_alloc _ _ _ (Nat.lt_of_lt_of_le hi h.size)]; exact h.block i hi hn⟩
theorem Mod.setCell {S : Nat → Prop} {a w : World} (h : Mod S a w) {p : Addr} (hp : S p.block ∨ a.heap.size ≤ p.block) (u : Value) : Mod S a (w.setCell p u) :=
  ⟨h.os, h.tape, h.output, Nat.le_trans h.size (by simp [World.setCell]), fun i hi hn => by
    rw [Below.heap_setCell _ _ _ _ (fun e => by subst e; rcases hp with e | e; exact hn e; omega)]; exact h.block i hi hn⟩
theorem Mod.grown {S : Nat → Prop} {a w w' : World} {row : Option Nat} (h : Mod S a w) (hg : w.grownBy w' row) (hr : ∀ k, row = some k → S k ∨ a.heap.size ≤ k) : Mod S a w' :=
  ⟨hg.os.trans h.os, hg.tape.trans h.tape, hg.output.trans h.output, Nat.le_trans h.size hg.size, fun i hi hn => by
    rw [hg.block i (Nat.lt_of_lt_of_le hi h.size) (fun e => by rcases hr i e.symm with e | e; exact hn e; omega)]; exact h.block i hi hn⟩
theorem Mod.ofBelow {w w' : World} (h : Below w.heap.size w w') (S : Nat → Prop) : Mod S w w' := ⟨h.os, h.tape, h.output, h.size, fun i hi _ => h.block i hi⟩
theorem Mod.thenBelow {S : Nat → Prop} {a w w' : World} (h : Mod S a w) (k : Below w.heap.size w w') : Mod S a w' :=
  h.trans (Mod.ofBelow k Nil) (fun _ e => e.elim)
theorem Mod.below {S : Nat → Prop} {w w' : World} (h : Mod S w w') {B : Nat} (hB : B ≤ w.heap.size) (hs : ∀ k, S k → B ≤ k) : Below B w w' :=
  ⟨h.os, h.tape, h.output, h.size, fun k hk => h.block k (by omega) (fun e => by have := hs k e; omega)⟩
theorem Mod.cell {S : Nat → Prop} {w w' : World} (h : Mod S w w') {p : Addr} (hp : p.block < w.heap.size) (hn : ¬ S p.block) : w'.cell? p = w.cell? p :=
  World.cell?_of_block (w := w) (h.block p.block hp hn)
theorem Mod.frozen {S : Nat → Prop} {w w' : World} (h : Mod S w w') {p : Addr} (hp : p.block < w.heap.size) (hn : ¬ S p.block) : w'.frozen? p = w.frozen? p :=
  World.frozen?_of_block (w := w) (h.block p.block hp hn)
theorem Plus.mono {S : Nat → Prop} {a b c : World} (h : b.heap.size ≤ c.heap.size) {k : Nat} (hk : Plus S a b k) : Plus S a c k := by
  unfold Plus at *
  rcases hk with h1 | h1
  · exact .inl h1
  · exact .inr ⟨h1.1, by omega⟩

/-! ### a block's cells, known whole -/
theorem blk_cell {w : World} {b : Nat} {c : Array Value} {t : TypeId} {fr : Nat × Nat} (h : w.heap[b]? = some (.cells c t fr)) (o : Nat) : w.cell? ⟨b, o, none⟩ = c[o]? := cell_of_row w b o c t fr h
theorem blk_frozen {w : World} {b : Nat} {c : Array Value} {t : TypeId} (h : w.heap[b]? = some (.cells c t (0, 0))) (o : Nat) : w.frozen? ⟨b, o, none⟩ = false := by
  simp [World.frozen?, h]
theorem blk_lt {w : World} {b : Nat} {o : Obj} (h : w.heap[b]? = some o) : b < w.heap.size := (Array.getElem?_eq_some_iff.1 h).1
theorem blk_set {w : World} {b : Nat} {c : Array Value} {t : TypeId} {fr : Nat × Nat} (h : w.heap[b]? = some (.cells c t fr)) (o : Nat) (v : Value) :
    (w.setCell ⟨b, o, none⟩ v).heap[b]? = some (.cells (c.setIfInBounds o v) t fr) := by
  simp [World.setCell, Array.getElem?_modify, h]
theorem blk_set_other {w : World} {b : Nat} {p : Addr} {v : Value} (h : b ≠ p.block) : (w.setCell p v).heap[b]? = w.heap[b]? := Below.heap_setCell _ _ _ _ h
theorem blk_alloc {w : World} {b : Nat} {o o' : Obj} (h : w.heap[b]? = some o) : (w.alloc o').heap[b]? = some o := by
  rw [Below.heap_alloc _ _ _ (blk_lt h)]; exact h
theorem blk_new (w : World) (o : Obj) : (w.alloc o).heap[w.heap.size]? = some o := heap_alloc_new w o
theorem blk_grown {w w' : World} {row : Option Nat} (hg : w.grownBy w' row) {b : Nat} {o : Obj} (h : w.heap[b]? = some o) (hn : some b ≠ row) : w'.heap[b]? = some o :=
  (hg.block b (blk_lt h) hn).trans h
theorem blk_mod {S : Nat → Prop} {w w' : World} (hm : Mod S w w') {b : Nat} {o : Obj} (h : w.heap[b]? = some o) (hn : ¬ S b) : w'.heap[b]? = some o :=
  (hm.block b (blk_lt h) hn).trans h

/-! ### bytes -/
def encU8 (x : UInt8) : Value := .int .u8 (x.toNat : Int)
/-- A slice of the bytes l, somewhere: it can be read. -/
def BytesAt (w : World) (v : Value) (l : List UInt8) : Prop :=
  ∃ (p : Option Addr) (cap : Nat), v = .slice p l.length cap ∧ l.length ≤ cap ∧ (p = none → cap = 0) ∧
    ∀ a, p = some a → ∀ i (_ : i < l.length), a.spot = none ∧ w.cell? ⟨a.block, a.off + i, none⟩ = some (encU8 l[i])
/-- A slice of the bytes l whose block is its owner's alone. -/
def OwnBytes (w : World) (v : Value) (l : List UInt8) : Prop := w.ownsRow 0 5 1 v l.length (l.map encU8)

theorem OwnBytes.form {w : World} {v : Value} {l : List UInt8} (h : OwnBytes w v l) :
    (v = .slice none 0 0 ∧ l = []) ∨ ∃ g cap cur, v = .slice (some ⟨g, 0, none⟩) l.length cap ∧ w.heap[g]? = some (.cells cur 5 (0, 0)) ∧ l.length ≤ cap ∧ cap ≤ maxLen ∧ cur.size = cap ∧ cur.toList.take l.length = l.map encU8 := by
  obtain ⟨hl, h⟩ := h
  rcases h with ⟨rfl, h0⟩ | ⟨g, cap, cur, rfl, _, hg, h1, h2, h3, h4⟩
  · exact .inl ⟨rfl, List.eq_nil_of_length_eq_zero h0⟩
  · exact .inr ⟨g, cap, cur, rfl, hg, h1, h2, by omega, by simpa using h4⟩

theorem OwnBytes.at {w : World} {v : Value} {l : List UInt8} (h : OwnBytes w v l) : BytesAt w v l := by
  rcases h.form with ⟨rfl, rfl⟩ | ⟨g, cap, cur, rfl, hg, h1, h2, h3, h4⟩
  · exact ⟨none, 0, rfl, by simp, fun _ => rfl, fun a e => by cases e⟩
  · refine ⟨some ⟨g, 0, none⟩, cap, rfl, h1, (fun e => by cases e), fun a e => ?_⟩
    cases e
    refine fun i hi => ⟨rfl, ?_⟩
    rw [blk_cell hg]
    have e2 : (cur.toList.take l.length)[i]? = (l.map encU8)[i]? := by rw [h4]
    rw [List.getElem?_take, if_pos hi] at e2
    simpa [hi] using e2

theorem OwnBytes.kept {w w' : World} {v : Value} {l : List UInt8} (h : OwnBytes w v l) {S : Nat → Prop} (hm : Mod S w w') (hn : ∀ k, v.ownBlock = some k → ¬ S k) : OwnBytes w' v l := by
  obtain ⟨hl, h⟩ := h
  refine ⟨hl, ?_⟩
  rcases h with h | ⟨g, cap, cur, rfl, hb, hg, rest⟩
  · exact .inl h
  · exact .inr ⟨g, cap, cur, rfl, hb, blk_mod hm hg (hn g rfl), rest⟩

theorem OwnBytes.lt {w : World} {v : Value} {l : List UInt8} (h : OwnBytes w v l) : ∀ k, v.ownBlock = some k → k < w.heap.size := fun k hk => (World.ownsRow.lt h k hk).2

theorem BytesAt.below {w w' : World} {v : Value} {l : List UInt8} (h : BytesAt w v l) {B : Nat} (hb : Below B w w') (hlt : ∀ a n c, v = .slice (some a) n c → 0 < n → a.block < B) : BytesAt w' v l := by
  obtain ⟨p, cap, rfl, h1, h2, h3⟩ := h
  refine ⟨p, cap, rfl, h1, h2, fun a e => ?_⟩
  subst e
  intro i hi
  obtain ⟨hs, hc⟩ := h3 a rfl i hi
  refine ⟨hs, ?_⟩
  rw [hb.cell (p := ⟨a.block, a.off + i, none⟩) (hlt a _ _ rfl (by omega))]
  exact hc

end Go.Proofs.YtglkonhhknaomaaDoor
