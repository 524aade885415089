/- bytes.Join with nothing between, of any slices. -/
import Derived.Test.YtglkonhhknaomaaDoorEchCut
import Derived.Test.YtglkonhhknaomaaDoorEchApp
namespace Go.Proofs.YtglkonhhknaomaaDoor
open Go.RowKit Go.Maps Go.WideMaps

/-- A slice of slices of bytes, somewhere: it can be read. -/
def ListAt (w : World) (v : Value) (ls : List (List UInt8)) : Prop :=
  ∃ (p : Option Addr) (cap : Nat), v = .slice p ls.length cap ∧ ls.length ≤ cap ∧ ls.length ≤ 140737488355328 ∧
    ∀ i (_ : i < ls.length), ∃ b off u, p = some ⟨b, off, none⟩ ∧ w.cell? ⟨b, off + i, none⟩ = some u ∧ BytesAt w u ls[i]

theorem BytesAt.belowH {w w' : World} {v : Value} {l : List UInt8} (h : BytesAt w v l) (hb : Below w.heap.size w w') : BytesAt w' v l := by
  obtain ⟨p, cap, rfl, h1, h2, h3⟩ := h
  refine ⟨p, cap, rfl, h1, h2, fun a e => ?_⟩
  subst e
  intro i hi
  obtain ⟨hs, hc⟩ := h3 a rfl i hi
  refine ⟨hs, ?_⟩
  rw [hb.cell (p := ⟨a.block, a.off + i, none⟩) (World.block_lt_of_cell? w _ hc)]
  exact hc

theorem ListAt.belowH {w w' : World} {v : Value} {ls : List (List UInt8)} (h : ListAt w v ls) (hb : Below w.heap.size w w') : ListAt w' v ls := by
  obtain ⟨p, cap, rfl, h1, h2, h3⟩ := h
  refine ⟨p, cap, rfl, h1, h2, fun i hi => ?_⟩
  obtain ⟨b, off, u, e, hc, hu⟩ := h3 i hi
  exact ⟨b, off, u, e, by rw [hb.cell (p := ⟨b, off + i, none⟩) (World.block_lt_of_cell? w _ hc)]; exact hc, hu.belowH hb⟩

theorem bytesAt_fresh {B : Nat} {w : World} {v : Value} {l : List UInt8} (h : Lib.FreshBytes B w v l) : BytesAt w v l ∧ ∀ k, v.ownBlock = some k → B ≤ k := by
  obtain ⟨g, cap, zs, rfl, hB, hl, hc, hz, hr, hb, hcell, -⟩ := h
  refine ⟨⟨some ⟨g, 0, none⟩, cap, rfl, hl, (fun e => by cases e), fun a e => ?_⟩, fun k hk => by cases hk; exact hB⟩
  cases e
  refine fun i hi => ⟨rfl, ?_⟩
  have h1 := hcell i (by omega)
  simp only [Nat.zero_add] at h1 ⊢
  rw [h1]
  have e1 : l[i] = UInt8.ofNat (zs.getD i 0).toNat := by
    have e2 : l[i]? = (Lib.bytesOf (zs.take l.length))[i]? := by rw [hb]
    rw [List.getElem?_eq_getElem hi] at e2
    unfold Lib.bytesOf at e2
    rw [List.getElem?_map, List.getElem?_take, if_pos hi, List.getElem?_eq_getElem (by omega)] at e2
    simp only [Option.map_some, Option.some.injEq] at e2
    rw [e2]
    simp [List.getD, List.getElem?_eq_getElem (show i < zs.length by omega)]
  have e3 : 0 ≤ zs.getD i 0 ∧ zs.getD i 0 < 256 := by
    have : zs.getD i 0 = zs[i]'(by omega) := by simp [List.getD, List.getElem?_eq_getElem (show i < zs.length by omega)]
    rw [this]
    exact hr _ (List.getElem_mem _)
  unfold encU8
  rw [e1]
  congr 2
  have : (UInt8.ofNat (zs.getD i 0).toNat).toNat = (zs.getD i 0).toNat := by
    generalize zs.getD i 0 = n at e3
    rw [UInt8.toNat_ofNat']; omega
  rw [this]
  omega

theorem join_flat (ls : List (List UInt8)) : Lib.join ls [] = ls.flatten := by
  unfold Lib.join
  induction ls with
  | nil => rfl
  | cons x r ih =>
    cases r with
    | nil => simp [List.intercalate]
    | cons y s =>
      simp only [List.intercalate, List.intersperse, List.flatten_cons] at ih ⊢
      rw [List.nil_append, ih]

theorem lens_flat (ls : List (List UInt8)) : Lib.lens ls = ls.flatten.length := by
  unfold Lib.lens
  rw [List.length_flatten]

theorem holds_of_at {w : World} {v : Value} {l : List UInt8} (h : BytesAt w v l) : Lib.HoldsBytes w v l := by
  obtain ⟨p, cap, rfl, h1, h2, h3⟩ := h
  refine ⟨p, cap, rfl, fun e => List.eq_nil_of_length_eq_zero (by have := h2 e; omega), fun a e i x hx => ?_⟩
  obtain ⟨hi, rfl⟩ := List.getElem?_eq_some_iff.1 hx
  obtain ⟨hs, hc⟩ := h3 a e i hi
  obtain ⟨b, off, spot⟩ := a
  simp only at hs
  subst hs
  rw [addr_add]
  exact hc

theorem join_any (w : World) (v : Value) (ls : List (List UInt8)) (h : ListAt w v ls) (hl : ls.flatten.length ≤ 140737488355328) :
    Calls Tryd.prog 31 #[v, .slice none 0 0] w fun e w' => ∃ v', e = .returned v' ∧ BytesAt w' v' ls.flatten ∧ (∀ k, v'.ownBlock = some k → w.heap.size ≤ k) ∧ Below w.heap.size w w' := by
  obtain ⟨p, cap, rfl, hcap, h47, hc⟩ := h
  match ls, hl, hcap, h47, hc with
  | [], _, _, _, _ =>
    refine (Tryd.bytes_Join_none p cap (.slice none 0 0) w).mono ?_
    rintro e w' ⟨rfl, rfl⟩
    refine ⟨_, rfl, ⟨some ⟨w.heap.size, 0, none⟩, 0, rfl, Nat.le_refl _, (fun e => by cases e), fun a e => ?_⟩, fun k hk => by cases hk; exact Nat.le_refl _, (Below.refl _ _).alloc (Nat.le_refl _) _⟩
    cases e
    exact fun i hi => by simp at hi
  | [l], hl, _, _, hc =>
    obtain ⟨b, off, u, rfl, hcell, hu⟩ := hc 0 (by simp)
    obtain ⟨q, cq, rfl, q1, q2, q3⟩ := hu
    simp only [List.getElem_cons_zero, Nat.add_zero] at *
    by_cases hz : l = []
    · subst hz
      refine (Tryd.bytes_Join_one_empty b off cap q cq (.slice none 0 0) w hcell).mono ?_
      rintro e w' ⟨rfl, rfl⟩
      exact ⟨_, rfl, ⟨none, 0, rfl, by simp, fun _ => rfl, fun a e => by cases e⟩, (fun k hk => by cases hk), Below.refl _ _⟩
    · have hpos : 0 < l.length := List.length_pos_iff.2 hz
      cases q with
      | none => have := q2 rfl; omega
      | some a =>
        obtain ⟨hs, -⟩ := q3 a rfl 0 hpos
        have hcc : ∀ i (hi : i < l.length), w.cell? ⟨a.block, a.off + i, none⟩ = some (encU8 l[i]) := fun i hi => (q3 a rfl i hi).2
        obtain ⟨b2, off2, spot⟩ := a
        simp only at hs
        subst hs
        refine (Tryd.bytes_Join_one b off cap ⟨b2, off2, none⟩ cq l (.slice none 0 0) w hcell (fun i x hx => ?_) hpos (by simpa using hl)).mono ?_
        · obtain ⟨hi, rfl⟩ := List.getElem?_eq_some_iff.1 hx
          rw [addr_add]
          exact hcc i hi
        · rintro e w' ⟨v', rfl, hf, hb⟩
          obtain ⟨g1, g2⟩ := bytesAt_fresh hf
          exact ⟨v', rfl, by simpa using g1, g2, hb⟩
  | l1 :: l2 :: r, hl, hcap, h47, hc =>
    obtain ⟨b, off, u, rfl, _, _⟩ := hc 0 (by simp)
    have hex : ∀ i (hi : i < (l1 :: l2 :: r).length), ∃ u, w.cell? ⟨b, off + i, none⟩ = some u ∧ BytesAt w u (l1 :: l2 :: r)[i] := fun i hi => by
      obtain ⟨b', off', u, e, h1, h2⟩ := hc i hi
      simp only [Option.some.injEq, Addr.mk.injEq, and_true] at e
      obtain ⟨rfl, rfl⟩ := e
      exact ⟨u, h1, h2⟩
    let vs : List Value := (List.range (l1 :: l2 :: r).length).map fun i => (w.cell? ⟨b, off + i, none⟩).getD undef
    have hvs : ∀ i v, vs[i]? = some v → ∃ hi : i < (l1 :: l2 :: r).length, w.cell? ⟨b, off + i, none⟩ = some v ∧ BytesAt w v (l1 :: l2 :: r)[i] := by
      intro i v hv
      simp only [vs, List.getElem?_map] at hv
      obtain ⟨j, hj, rfl⟩ := Option.map_eq_some_iff.1 hv
      obtain ⟨hj1, rfl⟩ := List.getElem?_eq_some_iff.1 hj
      simp only [List.length_range] at hj1
      obtain ⟨u, h1, h2⟩ := hex i hj1
      simp only [List.getElem_range]
      exact ⟨hj1, by rw [h1]; rfl, by rw [h1]; exact h2⟩
    have hP : Lib.PartsAt w ⟨b, off, none⟩ vs (l1 :: l2 :: r) := by
      refine ⟨by simp [vs], fun i v hv => ?_, fun i v l hv hl => ?_⟩
      · obtain ⟨_, h1, _⟩ := hvs i v hv
        rw [addr_add]
        exact h1
      · obtain ⟨hi, _, h2⟩ := hvs i v hv
        rw [List.getElem?_eq_getElem hi] at hl
        simp only [Option.some.injEq] at hl
        subst hl
        exact holds_of_at h2
    refine (Tryd.bytes_Join_many b off (l1 :: l2 :: r).length cap vs (l1 :: l2 :: r) (.slice none 0 0) [] w rfl (by simp) hP hcap ⟨none, 0, rfl, fun _ => rfl, fun a e => by cases e⟩ h47 (by rw [lens_flat]; simpa using hl)).mono ?_
    rintro e w' ⟨v', rfl, hf, hb⟩
    rw [join_flat] at hf
    obtain ⟨g1, g2⟩ := bytesAt_fresh hf
    exact ⟨v', rfl, g1, g2, hb⟩

end Go.Proofs.YtglkonhhknaomaaDoor
