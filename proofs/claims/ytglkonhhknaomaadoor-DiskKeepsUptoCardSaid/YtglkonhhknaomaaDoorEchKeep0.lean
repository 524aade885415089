/- What a crash leaves, as plain data; slices of slices and of numbers that the law makes; one script on both disks. -/
import Derived.Test.YtglkonhhknaomaaDoorEchTwo
namespace Go.Proofs.YtglkonhhknaomaaDoor
open Go.RowKit Go.Maps

/-! ### plain -/
theorem gone_total : ∀ (l : List DFile) (ks : List Int), goneF l ks + total (crashF l ks) = total l
  | [], _ => rfl
  | f :: r, ks => by
    have ih := gone_total r ks.tail
    unfold total at *
    simp only [goneF, crashF, List.map_cons, List.sum_cons, List.length_take]
    omega
theorem crash_names (l : List DFile) (ks : List Int) : (crashF l ks).map DFile.name = l.map DFile.name := by
  have := midF_names l ks l.length (Nat.le_refl _)
  rwa [midF_all] at this
theorem crash_get (l : List DFile) (ks : List Int) (i : Nat) (hi : i < l.length) (hi2 : i < (crashF l ks).length) : (crashF l ks)[i] = cr l[i] ks[i]? := by
  have h := crashF_get l ks i
  rw [List.getElem?_eq_getElem hi2, List.getElem?_eq_getElem hi] at h
  simpa using h
theorem gone_again {l : List DFile} (h : ∀ f ∈ l, f.data.length = f.safe) : goneF l [] = 0 := by
  induction l with
  | nil => rfl
  | cons f r ih =>
    have h1 := h f (by simp)
    have h2 := ih fun g hg => h g (by simp [hg])
    simp only [goneF, List.head?_nil, List.tail_nil, stays, h2]
    omega
theorem crash_safe {l : List DFile} (hs : ∀ f ∈ l, f.safe ≤ f.data.length) (ks : List Int) : ∀ f ∈ crashF l ks, f.data.length = f.safe := by
  intro f hf
  obtain ⟨i, hi, rfl⟩ := List.getElem_of_mem hf
  have hi' : i < l.length := by rw [crashF_length] at hi; exact hi
  rw [crash_get l ks i hi' hi]
  have := stays_le (hs l[i] (List.getElem_mem hi')) ks[i]?
  show (l[i].data.take (stays l[i] ks[i]?)).length = stays l[i] ks[i]?
  rw [List.length_take]
  omega
theorem total_take_succ (l : List DFile) (i : Nat) (hi : i < l.length) : total (l.take (i + 1)) = total (l.take i) + l[i].data.length :=
  total_snoc l i l[i] (List.getElem?_eq_getElem hi)
theorem safeOf_get {st : DSt} (h : st.wf) (i : Nat) (hi : i < st.files.length) : safeOf st.files st.files[i].name = st.files[i].safe := by
  unfold safeOf
  rw [findF_get h i hi]

/-! ### rows that the law makes -/
theorem info_sl : (Tryd.prog.info? 42).map (fun i => (i.zero, i.size, i.bytes)) = some (some (.slice none 0 0), 1, 24) := by kernel_rfl
theorem info_int : (Tryd.prog.info? 3).map (fun i => (i.zero, i.size, i.bytes)) = some (some (.int .i64 0), 1, 8) := by kernel_rfl

theorem src_one {w : World} {b : Nat} {u : Value} {t : TypeId} {fr : Nat × Nat} (h : w.heap[b]? = some (.cells #[u] t fr)) (hu : u.oneCell' = true) : SrcAt w 1 (.slice (some ⟨b, 0, none⟩) 1 1) 1 [u] := by
  refine ⟨rfl, fun x hx => by rw [List.mem_singleton] at hx; subst hx; exact hu, .inr ⟨_, _, rfl, fun j x hx => ?_⟩⟩
  obtain ⟨hj, rfl⟩ := List.getElem?_eq_some_iff.1 hx
  have : j = 0 := by simpa using hj
  subst this
  rw [addr_add, blk_cell h]
  rfl

theorem append_slice (w : World) (ty : TypeId) {v : Value} {n : Nat} {xs : List Value} (h : w.ownsRow 0 42 1 v n xs) {b : Nat} {u : Value} {t : TypeId} {fr : Nat × Nat} (hb : w.heap[b]? = some (.cells #[u] t fr)) (hu : u.oneCell' = true) (hn : n ≤ 4096) :
    ∃ v' w', (Builtin.append_ #[34, 34] ty #[v, .slice (some ⟨b, 0, none⟩) 1 1]).run Tryd.prog w = .ok v' w' ∧ w'.ownsRow 0 42 1 v' (n + 1) (xs ++ [u]) ∧ w.grownBy w' v.ownBlock ∧ (v'.ownBlock = v.ownBlock ∨ v'.ownBlock = some w.heap.size) := by
  obtain ⟨i0, hi, hz0, hz1, hz2⟩ := info_parts info_sl
  obtain ⟨v', w', hr, ho, hg, hk, -⟩ := append_gen (P := Tryd.prog) w 34 ty 42 i0 (.slice none 0 0) 1 24 Tryd.underlying34 hi hz0 hz1 hz2 rfl (by decide) v n xs h _ 1 [u] (src_one hb hu) (by unfold maxLen; omega) (by omega)
  exact ⟨v', w', hr, ho, hg, hk⟩
theorem append_int (w : World) (ty : TypeId) {v : Value} {n : Nat} {xs : List Value} (h : w.ownsRow 0 3 1 v n xs) {b : Nat} {u : Value} {t : TypeId} {fr : Nat × Nat} (hb : w.heap[b]? = some (.cells #[u] t fr)) (hu : u.oneCell' = true) (hn : n ≤ 4096) :
    ∃ v' w', (Builtin.append_ #[35, 35] ty #[v, .slice (some ⟨b, 0, none⟩) 1 1]).run Tryd.prog w = .ok v' w' ∧ w'.ownsRow 0 3 1 v' (n + 1) (xs ++ [u]) ∧ w.grownBy w' v.ownBlock ∧ (v'.ownBlock = v.ownBlock ∨ v'.ownBlock = some w.heap.size) := by
  obtain ⟨i0, hi, hz0, hz1, hz2⟩ := info_parts info_int
  obtain ⟨v', w', hr, ho, hg, hk, -⟩ := append_gen (P := Tryd.prog) w 35 ty 3 i0 (.int .i64 0) 1 8 Tryd.underlying35 hi hz0 hz1 hz2 rfl (by decide) v n xs h _ 1 [u] (src_one hb hu) (by unfold maxLen; omega) (by omega)
  exact ⟨v', w', hr, ho, hg, hk⟩

theorem row_kept {w w' : World} {T : TypeId} {v : Value} {n : Nat} {xs : List Value} (h : w.ownsRow 0 T 1 v n xs) {S : Nat → Prop} (hm : Mod S w w') (hn : ∀ k, v.ownBlock = some k → ¬ S k) : w'.ownsRow 0 T 1 v n xs := by
  obtain ⟨hl, h⟩ := h
  refine ⟨hl, ?_⟩
  rcases h with h | ⟨g, cap, cur, rfl, hb, hg, rest⟩
  · exact .inl h
  · exact .inr ⟨g, cap, cur, rfl, hb, blk_mod hm hg (hn g rfl), rest⟩
/-- A row's slice, and its cells. -/
theorem row_form {w : World} {T : TypeId} {v : Value} {n : Nat} {xs : List Value} (h : w.ownsRow 0 T 1 v n xs) : ∃ p cap, v = .slice p n cap ∧ n ≤ cap ∧ cap ≤ maxLen ∧ ∀ i (_ : i < n), ∃ b u, p = some ⟨b, 0, none⟩ ∧ xs[i]? = some u ∧ w.cell? ⟨b, i, none⟩ = some u := by
  obtain ⟨hl, h⟩ := h
  rcases h with ⟨rfl, hz⟩ | ⟨g, cap, cur, rfl, _, hg, h1, h2, h3, h4⟩
  · subst hz
    exact ⟨none, 0, rfl, Nat.le_refl _, by simp [maxLen], fun i hi => by omega⟩
  · refine ⟨some ⟨g, 0, none⟩, cap, rfl, h1, h2, fun i hi => ?_⟩
    have hx : i < xs.length := by omega
    refine ⟨g, xs[i], rfl, List.getElem?_eq_getElem hx, ?_⟩
    rw [blk_cell hg]
    have e2 : (cur.toList.take (n * 1))[i]? = xs[i]? := by rw [h4]
    rw [List.getElem?_take, if_pos (by omega), List.getElem?_eq_getElem hx] at e2
    simpa using e2

/-! ### one script on both disks -/
section
variable {B : Nat} {w w' w1 : World} {d mb r : Nat} {st : DSt} {a : ActM} {x : ActV}
def BothX (B : Nat) (w : World) (d mb r : Nat) (st : DSt) : Prop := ∃ SD SR, Both B w SD SR d mb st r st
theorem BothX.nil (h : BothX B w d mb r st) (hm : Mod Nil w w') : BothX B w' d mb r st := by
  obtain ⟨SD, SR, h⟩ := h
  exact ⟨SD, SR, h.keptN hm⟩
theorem do_one (h : BothX B w d mb r st) (hB : B ≤ w.heap.size) (ha : ∀ w', Below B w w' → ActAt w' a x) (hlo : LowAct B x) (hn16 : a.names.length * 16 ≤ 140737488355328) (hs : total st.files + a.bs.flatten.length ≤ 1099511627776) :
    Calls Tryd.prog 9 #[.agg #[.int .i64 a.kind, x.nv, x.bv, .int .i64 a.n, x.kv], .pointer (some ⟨d, 0, none⟩), .pointer (some ⟨r, 0, none⟩)] w
      (fun e w' => e = .returned (.bool true) ∧ BothX B w' d mb r (a.run st).2 ∧ Below B w w') := by
  obtain ⟨SD, SR, h⟩ := h
  refine (do_any h hB ha hlo hn16 hs hs).mono ?_
  rintro e w' ⟨rfl, SD', SR', hs, hb⟩
  exact ⟨by simp, ⟨SD', SR', hb⟩, hs.mod.below hB (fun k e => e.elim (h.lowD k) (h.lowR k))⟩
theorem both_new {w w1 w2 : World} {fs : List FileR} (z1 : w.heap.size ≤ w1.heap.size) (hd : DiskAt w2 (Plus Nil w1 w2) d mb st fs) (hm : Mod Nil w1 w2) (room : Nat) (hr : room ≤ 9223372036854775807) (hst : st = ⟨room, -1, []⟩) :
    BothX w.heap.size (w2.alloc (.cells #[.int .i64 (room : Int), .slice none 0 0, .bool false, .int .i64 0] 31)) d mb w2.heap.size st := by
  have s1 := hm.size
  have hrf := refAt_new w2 room false (-1) rfl hr
  rw [← hst] at hrf
  refine ⟨_, _, ⟨_, hd.kept ((Mod.refl Nil _).alloc _) (fun _ _ e => e)⟩, hrf, ?_, ?_, ?_⟩
  · intro k hk e
    have := hd.inS k hk
    omega
  · intro k hk
    rcases hk with hk | hk
    · exact hk.elim
    · omega
  · intro k hk
    omega
end
end Go.Proofs.YtglkonhhknaomaaDoor
