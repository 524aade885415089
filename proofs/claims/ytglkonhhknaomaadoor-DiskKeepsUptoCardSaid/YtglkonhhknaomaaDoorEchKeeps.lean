/- The walk of the law DiskKeeps. -/
import Derived.Test.YtglkonhhknaomaaDoorEchKeep0
import Derived.Deep.RegionHeld3
namespace Go.Proofs.YtglkonhhknaomaaDoor
open Go.RowKit Go.Maps

/-- Behind the first acts of the script. -/
def KeepsRel (w : World) (acts : List ActM) (d mb r : Nat) (iv : Value) (wl : World) : Prop :=
  ∃ (i : Nat) (st : DSt), i ≤ acts.length ∧ iv = .int .i64 (i : Int) ∧ total st.files ≤ i * 2000 ∧ BothX w.heap.size wl d mb r st ∧ Below w.heap.size w wl

/-- What is told of the first files: their bytes, each in a slice of its own, how many of them are safe. -/
structure ToldAt (w5 wl : World) (l : List DFile) (i : Nat) (wv sv : Value) (vs : List Value) : Prop where
  len : vs.length = i
  was : wl.ownsRow 0 42 1 wv i vs
  safe : wl.ownsRow 0 3 1 sv i ((l.take i).map fun f => .int .i64 (f.safe : Int))
  each : ∀ k (hk : k < vs.length) (hl : k < l.length), OwnBytes wl vs[k] l[k].data ∧ ∀ b, vs[k].ownBlock = some b → w5.heap.size ≤ b ∧ wv.ownBlock ≠ some b ∧ sv.ownBlock ≠ some b
  ne : ∀ b, wv.ownBlock = some b → sv.ownBlock ≠ some b
  newW : ∀ b, wv.ownBlock = some b → w5.heap.size ≤ b
  newS : ∀ b, sv.ownBlock = some b → w5.heap.size ≤ b

section
variable {w5 wl w' : World} {l : List DFile} {i : Nat} {wv sv : Value} {vs : List Value}

theorem ToldAt.kept (h : ToldAt w5 wl l i wv sv vs) {S : Nat → Prop} (hm : Mod S wl w') (hn : ∀ k, w5.heap.size ≤ k → ¬ S k) : ToldAt w5 w' l i wv sv vs where
  len := h.len
  was := row_kept h.was hm (fun k hk => hn k (h.newW k hk))
  safe := row_kept h.safe hm (fun k hk => hn k (h.newS k hk))
  each := fun k hk hl => ⟨(h.each k hk hl).1.kept hm (fun b hb => hn b ((h.each k hk hl).2 b hb).1), (h.each k hk hl).2⟩
  ne := h.ne
  newW := h.newW
  newS := h.newS

theorem told_start (w5 wl : World) (l : List DFile) : ToldAt w5 wl l 0 (.slice none 0 0) (.slice none 0 0) [] :=
  ⟨rfl, World.ownsRow_nil _ _ _ _, World.ownsRow_nil _ _ _ _, (fun k hk => by simp at hk), (fun b hb => by cases hb), (fun b hb => by cases hb), (fun b hb => by cases hb)⟩
theorem own_slice {w : World} {v : Value} {l : List UInt8} (h : OwnBytes w v l) : ∃ a c, v = .slice a l.length c := by
  rcases h.form with ⟨rfl, rfl⟩ | ⟨g, cap, cur, rfl, _⟩
  · exact ⟨_, _, rfl⟩
  · exact ⟨_, _, rfl⟩
theorem oneCell_own {w : World} {v : Value} {l : List UInt8} (h : OwnBytes w v l) : v.oneCell' = true := by
  rcases h.form with ⟨rfl, _⟩ | ⟨g, cap, cur, rfl, _⟩ <;> rfl

theorem ToldAt.fresh (h : ToldAt w5 wl l i wv sv vs) (hl : i ≤ l.length) (hz : w5.heap.size ≤ wl.heap.size) {u : Value} (hu : ∀ b, u.ownBlock = some b → wl.heap.size ≤ b) :
    ∀ b, u.ownBlock = some b → w5.heap.size ≤ b ∧ wv.ownBlock ≠ some b ∧ sv.ownBlock ≠ some b ∧ ∀ k (hk : k < vs.length), vs[k].ownBlock ≠ some b := fun b hb => by
  have h1 := hu b hb
  refine ⟨Nat.le_trans hz h1, fun e => ?_, fun e => ?_, fun k hk e => ?_⟩
  · have := (World.ownsRow.lt h.was b e).2; omega
  · have := (World.ownsRow.lt h.safe b e).2; omega
  · have := (h.each k hk (by have := h.len; omega)).1.lt b e; omega

/-- The next file is told: its bytes first. -/
theorem ToldAt.was1 (h : ToldAt w5 wl l i wv sv vs) (hi : i < l.length) (hz : w5.heap.size ≤ wl.heap.size) {u : Value} (hu : OwnBytes wl u l[i].data) (hub : ∀ b, u.ownBlock = some b → w5.heap.size ≤ b ∧ wv.ownBlock ≠ some b ∧ sv.ownBlock ≠ some b ∧ ∀ k (hk : k < vs.length), vs[k].ownBlock ≠ some b) (hi2 : i ≤ 4096) (T : TypeId) (ty : TypeId) :
    ∃ wv' w', (Builtin.append_ #[34, 34] ty #[wv, .slice (some ⟨wl.heap.size, 0, none⟩) 1 1]).run Tryd.prog (wl.alloc (.cells #[u] T)) = .ok wv' w' ∧ Mod (fun b => w5.heap.size ≤ b) wl w' ∧
      w'.ownsRow 0 42 1 wv' (i + 1) (vs ++ [u]) ∧ w'.ownsRow 0 3 1 sv i ((l.take i).map fun f => .int .i64 (f.safe : Int)) ∧
      (∀ k (hk : k < (vs ++ [u]).length) (hl : k < l.length), OwnBytes w' (vs ++ [u])[k] l[k].data ∧ ∀ b, (vs ++ [u])[k].ownBlock = some b → w5.heap.size ≤ b ∧ wv'.ownBlock ≠ some b ∧ sv.ownBlock ≠ some b) ∧ (∀ b, wv'.ownBlock = some b → sv.ownBlock ≠ some b) ∧ (∀ b, wv'.ownBlock = some b → w5.heap.size ≤ b) := by
  have hm0 : Mod Nil wl (wl.alloc (.cells #[u] T)) := (Mod.refl Nil wl).alloc _
  obtain ⟨wv', w', hr, ho, hg, hk⟩ := append_slice (wl.alloc (.cells #[u] T)) ty (row_kept h.was hm0 (fun _ _ e => e)) (blk_new wl (.cells #[u] T)) (oneCell_own hu) hi2
  have hmg : Mod (fun b => wv.ownBlock = some b) wl w' := (Mod.mono hm0 (fun _ _ e => e.elim)).grown hg (fun k e => .inl e)
  have hsz := hg.size
  have hwz : ∀ b, wv'.ownBlock = some b → wv.ownBlock = some b ∨ wl.heap.size ≤ b := fun b e => by
    rcases hk with e2 | e2
    · exact .inl (e2.symm.trans e)
    · rw [e2] at e
      have := Option.some.inj e
      simp at this
      omega
  have hlt : ∀ k (hk : k < vs.length) (hl : k < l.length) b, vs[k].ownBlock = some b → b < wl.heap.size := fun k hk hl b hb => (h.each k hk hl).1.lt b hb
  have hul : ∀ b, u.ownBlock = some b → b < wl.heap.size := fun b hb => hu.lt b hb
  have hsl : ∀ b, sv.ownBlock = some b → b < wl.heap.size := fun b hb => (World.ownsRow.lt h.safe b hb).2
  refine ⟨wv', w', hr, hmg.mono (fun b _ hb => h.newW b hb), ho, row_kept h.safe hmg (fun k hk e => h.ne k e hk), fun k hk' hl => ?_, fun b hb hs => ?_, fun b hb => ?_⟩
  · by_cases hlast : k < vs.length
    · have e1 : (vs ++ [u])[k] = vs[k] := List.getElem_append_left hlast
      rw [e1]
      obtain ⟨g1, g2⟩ := h.each k hlast hl
      refine ⟨g1.kept hmg (fun b hb e => (g2 b hb).2.1 e), fun b hb => ⟨(g2 b hb).1, fun e => ?_, (g2 b hb).2.2⟩⟩
      rcases hwz b e with e2 | e2
      · exact (g2 b hb).2.1 e2
      · have := hlt k hlast hl b hb; omega
    · have hke : k = vs.length := by simp at hk'; omega
      have e1 : (vs ++ [u])[k] = u := by subst hke; simp
      rw [e1]
      have hki : k = i := by rw [hke, h.len]
      subst hki
      refine ⟨hu.kept hmg (fun b hb e => (hub b hb).2.1 e), fun b hb => ⟨(hub b hb).1, fun e => ?_, (hub b hb).2.2.1⟩⟩
      rcases hwz b e with e2 | e2
      · exact (hub b hb).2.1 e2
      · have := hul b hb; omega
  · rcases hwz b hb with e2 | e2
    · exact h.ne b e2 hs
    · have := hsl b hs; omega
  · rcases hwz b hb with e2 | e2
    · exact h.newW b e2
    · omega

/-- The next file is told: how many of its bytes are safe. -/
theorem told_safe1 {vs' : List Value} (hl' : vs'.length = i + 1) (hwas : wl.ownsRow 0 42 1 wv (i + 1) vs') (hsafe : wl.ownsRow 0 3 1 sv i ((l.take i).map fun f => .int .i64 (f.safe : Int))) (hi : i < l.length) (hz : w5.heap.size ≤ wl.heap.size)
    (heach : ∀ k (hk : k < vs'.length) (hl : k < l.length), OwnBytes wl vs'[k] l[k].data ∧ ∀ b, vs'[k].ownBlock = some b → w5.heap.size ≤ b ∧ wv.ownBlock ≠ some b ∧ sv.ownBlock ≠ some b) (hne : ∀ b, wv.ownBlock = some b → sv.ownBlock ≠ some b) (hnW : ∀ b, wv.ownBlock = some b → w5.heap.size ≤ b) (hnS : ∀ b, sv.ownBlock = some b → w5.heap.size ≤ b) (hi2 : i ≤ 4096) (T : TypeId) (ty : TypeId) :
    ∃ sv' w', (Builtin.append_ #[35, 35] ty #[sv, .slice (some ⟨wl.heap.size, 0, none⟩) 1 1]).run Tryd.prog (wl.alloc (.cells #[.int .i64 (l[i].safe : Int)] T)) = .ok sv' w' ∧ Mod (fun b => w5.heap.size ≤ b) wl w' ∧ ToldAt w5 w' l (i + 1) wv sv' vs' := by
  have hm0 : Mod Nil wl (wl.alloc (.cells #[.int .i64 (l[i].safe : Int)] T)) := (Mod.refl Nil wl).alloc _
  obtain ⟨sv', w', hr, ho, hg, hk⟩ := append_int (wl.alloc (.cells #[.int .i64 (l[i].safe : Int)] T)) ty (row_kept hsafe hm0 (fun _ _ e => e)) (blk_new wl (.cells #[.int .i64 (l[i].safe : Int)] T)) rfl hi2
  have hmg : Mod (fun b => sv.ownBlock = some b) wl w' := (Mod.mono hm0 (fun _ _ e => e.elim)).grown hg (fun k e => .inl e)
  have hsz := hg.size
  have hwz : ∀ b, sv'.ownBlock = some b → sv.ownBlock = some b ∨ wl.heap.size ≤ b := fun b e => by
    rcases hk with e2 | e2
    · exact .inl (e2.symm.trans e)
    · rw [e2] at e
      have := Option.some.inj e
      simp at this
      omega
  have hwl : ∀ b, wv.ownBlock = some b → b < wl.heap.size := fun b hb => (World.ownsRow.lt hwas b hb).2
  refine ⟨sv', w', hr, hmg.mono (fun b _ hb => hnS b hb), hl', row_kept hwas hmg (fun k hk e => hne k hk e), ?_, fun k hk' hl2 => ?_, fun b hb hs => ?_, hnW, fun b hb => ?_⟩
  · rw [List.take_succ_eq_append_getElem hi, List.map_append]
    exact ho
  · obtain ⟨g1, g2⟩ := heach k hk' hl2
    refine ⟨g1.kept hmg (fun b hb e => (g2 b hb).2.2 e), fun b hb => ⟨(g2 b hb).1, (g2 b hb).2.1, fun e => ?_⟩⟩
    rcases hwz b e with e2 | e2
    · exact (g2 b hb).2.2 e2
    · have := g1.lt b hb; omega
  · rcases hwz b hs with e2 | e2
    · exact hne b hb e2
    · have := hwl b hb; omega
  · rcases hwz b hb with e2 | e2
    · exact hnS b e2
    · omega
end

theorem bytes_take {w : World} {p : Option Addr} {cap : Nat} {l : List UInt8} (h : BytesAt w (.slice p l.length cap) l) (s : Nat) (hs : s ≤ l.length) : BytesAt w (.slice p s cap) (l.take s) := by
  obtain ⟨p', cap', e, h1, h2, h3⟩ := h
  cases e
  have hl : (l.take s).length = s := by rw [List.length_take]; omega
  refine ⟨p, cap, by rw [hl], by omega, h2, fun a e i hi => ?_⟩
  obtain ⟨g1, g2⟩ := h3 a e i (by omega)
  exact ⟨g1, by rw [g2, List.getElem_take]⟩
theorem crash_at_i {st : DSt} (h : st.wf) (ks : List Int) (i : Nat) (hi : i < st.files.length) : ∃ s, stays st.files[i] ks[i]? = s ∧ st.files[i].safe ≤ s ∧ s ≤ st.files[i].data.length := by
  have := stays_le (h.safe _ (List.getElem_mem hi)) ks[i]?
  exact ⟨_, rfl, this.1, this.2⟩

end Go.Proofs.YtglkonhhknaomaaDoor
