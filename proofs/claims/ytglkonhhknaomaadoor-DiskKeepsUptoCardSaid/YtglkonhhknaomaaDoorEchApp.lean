/- The builtin append onto a slice whose block is its owner's alone, from whatever source: one law. -/
import Derived.Test.YtglkonhhknaomaaDoorEchBase
import Derived.Laws.AppendOwnNone
import Derived.Lib.SlFresh
namespace Go.Proofs.YtglkonhhknaomaaDoor
open Go.RowKit Go.Maps

/-- m elements of 'size' cells each, somewhere, to be appended. -/
def SrcAt (w : World) (size : Nat) (src : Value) (m : Nat) (news : List Value) : Prop :=
  news.length = m * size ∧ (∀ u ∈ news, u.oneCell' = true) ∧ ((src = .slice none 0 0 ∧ m = 0) ∨ ∃ a c, src = .slice (some a) m c ∧ ∀ j u, news[j]? = some u → w.cell? (a.add j) = some u)

theorem addr_add (b o i : Nat) : (⟨b, o, none⟩ : Addr).add i = ⟨b, o + i, none⟩ := by unfold Addr.add; split <;> simp_all

theorem append_gen {P : Program} (w : World) (t ty e : TypeId) (i : TypeInfo) (z : Value) (size bytes : Nat) (ht : P.underlying t = some (.slice e)) (hi : P.info? e = some i) (hz : i.zero = some z)
    (hsize : i.size = size) (hby : i.bytes = bytes) (hzs : z.cells.size = size) (hsz : 0 < size)
    (v : Value) (n : Nat) (xs : List Value) (hown : w.ownsRow 0 e size v n xs) (src : Value) (m : Nat) (news : List Value) (hs : SrcAt w size src m news)
    (h63 : n + m ≤ maxLen) (hbytes : (n + m) * bytes ≤ 140737488355328) :
    ∃ v' w', (Builtin.append_ #[t, t] ty #[v, src]).run P w = .ok v' w' ∧ w'.ownsRow 0 e size v' (n + m) (xs ++ news) ∧ w.grownBy w' v.ownBlock ∧ (v'.ownBlock = v.ownBlock ∨ v'.ownBlock = some w.heap.size) ∧
      (0 < n + m → ∃ g cap, v' = .slice (some ⟨g, 0, none⟩) (n + m) cap) := by
  obtain ⟨hl, h1, hs⟩ := hs
  rcases hs with ⟨rfl, rfl⟩ | ⟨a, c, rfl, hnews⟩
  · have hn0 : news = [] := List.eq_nil_of_length_eq_zero (by simpa using hl)
    subst hn0
    have hrun := run_append_owned_none (P := P) (w := w) 0 t ty e i size ht hi v n xs hown
    refine ⟨v, w, hrun, by simpa using hown, ⟨rfl, rfl, rfl, Nat.le_refl _, fun _ _ _ => rfl⟩, .inl rfl, fun h => ?_⟩
    rcases hown.2 with ⟨_, h0⟩ | ⟨g, cap, _, rfl, _⟩
    · omega
    · exact ⟨g, cap, rfl⟩
  subst hsize
  subst hby
  have hsmall : n + m ≤ 9223372036854775807 := by simp only [maxLen] at h63; omega
  have hlen : (xs ++ news).length = (n + m) * i.size := by rw [List.length_append, hown.1, hl, Nat.add_mul]
  have grown : ∀ (old : Nat) (row : Option Nat),
      (w.drew.alloc (.cells (xs.toArray ++ news.toArray ++ Builtin.zeroCells z.cells (grownCap w (n + m) old e - (n + m))) e)).ownsRow 0 e i.size
        (.slice (some ⟨w.heap.size, 0, none⟩) (n + m) (grownCap w (n + m) old e)) (n + m) (xs ++ news) ∧
      w.grownBy (w.drew.alloc (.cells (xs.toArray ++ news.toArray ++ Builtin.zeroCells z.cells (grownCap w (n + m) old e - (n + m))) e)) row := by
    intro old row
    have hge := grownCap_ge w (n + m) old e
    have hcm : grownCap w (n + m) old e ≤ maxLen := grownCap_le_maxLen w (n + m) old e h63
    refine ⟨⟨hlen, .inr ⟨w.heap.size, _, _, rfl, Nat.zero_le _, heap_alloc_new w.drew _, hge, hcm, ?_, ?_⟩⟩, ⟨rfl, rfl, rfl, by simp, fun k hk _ => Below.heap_alloc w.drew _ k hk⟩⟩
    · simp only [Array.size_append, List.size_toArray, size_zeroCells, hzs, hown.1, hl, ← Nat.add_mul]
      congr 1
      omega
    · simp only [Array.toList_append, List.append_assoc]
      rw [← List.append_assoc, ← hlen]
      exact List.take_left
  rcases hown.2 with ⟨rfl, rfl⟩ | ⟨g, cap, cur, rfl, hbg, hg, hnc, hcm, hcs, htake⟩
  · have hx : xs = [] := List.eq_nil_of_length_eq_zero (by simpa using hown.1)
    subst hx
    by_cases hm : m = 0
    · subst hm
      have hn : news = [] := List.eq_nil_of_length_eq_zero (by simpa using hl)
      subst hn
      refine ⟨.slice none 0 0, w, ?_, World.ownsRow_nil w 0 e i.size, ⟨rfl, rfl, rfl, Nat.le_refl _, fun _ _ _ => rfl⟩, .inl rfl, fun h => by omega⟩
      simp [Builtin.append_, run_underlying ht, sizeOf, typeInfo, hi, Builtin.lenOf, Builtin.firstCells, loadCells, loadCellsFrom]
    · have hr := run_append_nil (P := P) w t ty e i z ht hi hz a m c news hl hnews (by omega) (by omega) (by have hb := hbytes; simp only [Nat.zero_add] at hb; omega)
      have hgr := grown 0 (Value.ownBlock (.slice none 0 0))
      simp only [Nat.zero_add, List.nil_append, Array.empty_append] at hgr ⊢
      exact ⟨_, _, hr, hgr.1, hgr.2, .inr rfl, fun _ => ⟨_, _, rfl⟩⟩
  · by_cases hroom : n + m ≤ cap
    · have hfit : n * i.size + news.length ≤ cur.size := by rw [hl, hcs, ← Nat.add_mul]; exact Nat.mul_le_mul_right _ hroom
      have hr := run_append_room (P := P) w t ty e i ht hi g n cap cur hg a m c news hl hnews h1 hroom hfit
      refine ⟨_, _, hr, ⟨hlen, .inr ⟨g, cap, _, rfl, hbg, setRow_heap w g cur _ e _ hg, hroom, hcm, ?_, ?_⟩⟩, ⟨rfl, rfl, rfl, by simp, fun k _ hk => setRow_other w g k _ (fun e => hk (by simp [Value.ownBlock, e]))⟩, .inl rfl, fun _ => ⟨_, _, rfl⟩⟩
      · simp only [List.size_toArray, List.length_append, List.length_take, List.length_drop, Array.length_toList]
        omega
      · rw [htake, ← hlen]
        exact List.take_left
    · have holds : ∀ j u, xs[j]? = some u → w.cell? ((⟨g, 0, none⟩ : Addr).add j) = some u := hown.cells (g := g) rfl
      have hr := run_append_grow (P := P) w t ty e i z ht hi hz ⟨g, 0, none⟩ n cap xs hown.1 holds a m c news hl hnews (by omega) (by omega) (growslice_fits (by omega) hbytes)
      have hgr := grown cap (Value.ownBlock (.slice (some ⟨g, 0, none⟩) n cap))
      exact ⟨_, _, hr, hgr.1, hgr.2, .inr rfl, fun _ => ⟨_, _, rfl⟩⟩

theorem BytesAt.src {w : World} {v : Value} {l : List UInt8} (h : BytesAt w v l) : SrcAt w 1 v l.length (l.map encU8) := by
  obtain ⟨p, cap, rfl, h1, h2, h3⟩ := h
  refine ⟨by simp, fun u hu => by obtain ⟨x, _, rfl⟩ := List.mem_map.1 hu; rfl, ?_⟩
  cases p with
  | none =>
    have hc := h2 rfl
    subst hc
    have hz : l.length = 0 := by omega
    exact .inl ⟨by rw [hz], hz⟩
  | some a =>
    right
    refine ⟨_, cap, rfl, fun j u hu => ?_⟩
    rw [List.getElem?_map] at hu
    obtain ⟨x, hx, rfl⟩ := Option.map_eq_some_iff.1 hu
    obtain ⟨hj, rfl⟩ := List.getElem?_eq_some_iff.1 hx
    obtain ⟨hs, hc⟩ := h3 a rfl j hj
    obtain ⟨b, off, spot⟩ := a
    simp only at hs
    subst hs
    rw [addr_add]
    exact hc

theorem info_u8 : (Tryd.prog.info? 5).map (fun i => (i.zero, i.size, i.bytes)) = some (some (.int .u8 0), 1, 1) := by kernel_rfl

/-- append of bytes. -/
theorem append_bytes (w : World) (ty : TypeId) {v : Value} {l : List UInt8} (h : OwnBytes w v l) {src : Value} {m : List UInt8} (hs : BytesAt w src m) (hb : l.length + m.length ≤ 140737488355328) :
    ∃ v' w', (Builtin.append_ #[42, 42] ty #[v, src]).run Tryd.prog w = .ok v' w' ∧ OwnBytes w' v' (l ++ m) ∧ w.grownBy w' v.ownBlock ∧ (v'.ownBlock = v.ownBlock ∨ v'.ownBlock = some w.heap.size) ∧
      (0 < l.length + m.length → ∃ g cap, v' = .slice (some ⟨g, 0, none⟩) (l.length + m.length) cap) := by
  obtain ⟨i0, hi, hz0, hz1, hz2⟩ := info_parts info_u8
  obtain ⟨v', w', hr, ho, hg, hk, hf⟩ := append_gen (P := Tryd.prog) w 42 ty 5 i0 (.int .u8 0) 1 1 Tryd.underlying42 hi hz0 hz1 hz2 rfl (by decide) v l.length (l.map encU8) h src m.length (m.map encU8) hs.src (by unfold maxLen; omega) (by omega)
  refine ⟨v', w', hr, ?_, hg, hk, hf⟩
  unfold OwnBytes
  rw [List.length_append, List.map_append]
  exact ho

end Go.Proofs.YtglkonhhknaomaaDoor
