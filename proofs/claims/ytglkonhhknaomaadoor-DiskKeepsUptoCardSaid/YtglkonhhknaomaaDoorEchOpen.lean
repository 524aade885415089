/- What the reading of the law's arguments says of memory: lists of strings, of bytes, of numbers; acts; and how great they are. -/
import Derived.Test.YtglkonhhknaomaaDoorRows
import Derived.Test.YtglkonhhknaomaaDoorEchLaw4
import Derived.Deep.Strs
namespace Go.Proofs.YtglkonhhknaomaaDoor
open Go.RowKit Go.Maps Go.ChangeShapes

section
variable {H : Type} {enc : TypeId × Value → H} {w : World} {held : Bool}

theorem bulkAll_map {α : Type} (f : α → DataW H) (l : List α) : Rows.uptoBulkAll (l.map f) = (l.map fun a => Rows.uptoBulk (f a)).sum := by
  induction l with
  | nil => rfl
  | cons x r ih => simp only [List.map_cons, Rows.uptoBulkAll, List.sum_cons, ih]

/-- A slice whose elements, if it has any, lie below the heap's size. -/
def LowV (w : World) (v : Value) : Prop := ∀ q n c, v = .slice (some q) n c → 0 < n → q.block < w.heap.size

theorem spot_none {w : World} {a : Addr} {i : Nat} {u u0 : Value} (h0 : w.cell? (a.add 0) = some u0) (h : w.cell? (a.add i) = some u) : a = ⟨a.block, a.off, none⟩ ∧ w.cell? ⟨a.block, a.off + i, none⟩ = some u := by
  obtain ⟨b, off, spot⟩ := a
  have hs : spot = none := by simpa [Addr.add] using World.cell?_spot h0
  subst hs
  refine ⟨rfl, ?_⟩
  rw [addr_add] at h
  exact h
theorem low_of {w : World} {a : Addr} {u : Value} (h : w.cell? (a.add 0) = some u) : a.block < w.heap.size := by
  have := World.block_lt_of_cell? w _ h
  simpa [Addr.add] using this
theorem sum_ones (l : List Int) : (l.map fun _ => 1).sum = l.length := by
  induction l with
  | nil => rfl
  | cons x r ih =>
    simp only [List.map_cons, List.sum_cons, List.length_cons, ih]
    omega
theorem five {α : Type} {l : List α} (h : l.length = 5) : ∃ a b c d e, l = [a, b, c, d, e] := by
  match l, h with
  | [a, b, c, d, e], _ => exact ⟨a, b, c, d, e, rfl⟩
theorem trod_struct5 {P : Program} {base : Nat} {spare : Nat → Bool} {t : TypeId} {f0 f1 f2 f3 f4 : Field} {fuel : Nat} {cs : List Value} {x : DataW H × List MemPlace} (ht : P.underlying t = some (.struct #[f0, f1, f2, f3, f4])) (h : DataW.trod enc P w base spare held fuel t cs = some x) :
    ∃ y0 y1 y2 y3 y4 n, x.1 = .agg [y0.1, y1.1, y2.1, y3.1, y4.1] ∧ cs.length = P.cellsOf t ∧ DataW.trod enc P w base spare held n f0.type ((cs.drop f0.offset).take (P.cellsOf f0.type)) = some y0 ∧
      DataW.trod enc P w base spare held n f1.type ((cs.drop f1.offset).take (P.cellsOf f1.type)) = some y1 ∧ DataW.trod enc P w base spare held n f2.type ((cs.drop f2.offset).take (P.cellsOf f2.type)) = some y2 ∧
      DataW.trod enc P w base spare held n f3.type ((cs.drop f3.offset).take (P.cellsOf f3.type)) = some y3 ∧ DataW.trod enc P w base spare held n f4.type ((cs.drop f4.offset).take (P.cellsOf f4.type)) = some y4 := by
  obtain ⟨xs, n, _, rfl, hl, hlen, hf⟩ := DataW.trod_struct ht h
  obtain ⟨y0, y1, y2, y3, y4, rfl⟩ := five (show xs.length = 5 from hlen)
  exact ⟨y0, y1, y2, y3, y4, n, by simp, hl, by simpa using hf 0 f0 rfl, by simpa using hf 1 f1 rfl, by simpa using hf 2 f2 rfl, by simpa using hf 3 f3 rfl, by simpa using hf 4 f4 rfl⟩
theorem le_sum {x : Nat} : ∀ {l : List Nat}, x ∈ l → x ≤ l.sum
  | y :: r, h => by
    simp only [List.sum_cons]
    rcases List.mem_cons.1 h with rfl | h
    · omega
    · have := le_sum h; omega
instance : Inhabited ActM := ⟨⟨0, [], [], 0, []⟩⟩

theorem open_strsAt {fuel : Nat} {cs : List Value} {x : DataW H × List MemPlace} (h : DataW.trod enc Tryd.prog w 0 (fun _ => true) held fuel 33 cs = some x) :
    ∃ v ss, cs = [v] ∧ StrsAt w v ss ∧ LowV w v ∧ (ss.map fun s => s.length + 1).sum + 1 ≤ Rows.uptoBulk x.1 := by
  rcases Deep.open_strs Tryd.underlying33 Tryd.underlying9 (by kernel_rfl) h with ⟨rfl, rfl⟩ | ⟨a, len, cap, m, Sx, rfl, -, hl, hm, hmm, rfl, hx⟩
  · exact ⟨_, [], rfl, strsAt_nil w, (fun q n c e _ => by cases e), by simp [Rows.uptoBulk]⟩
  · have hlm : len ≤ m := by rw [hmm]; exact hl
    have hlen : ((List.range len).map fun i => (Sx i).data.toList).length = len := by simp
    refine ⟨_, (List.range len).map fun i => (Sx i).data.toList, rfl, ⟨some a, cap, by rw [hlen], by rw [hlen]; omega, fun s hs => ?_, fun i hi => ?_⟩, fun q n c e hn => ?_, ?_⟩
    · obtain ⟨i, hi, rfl⟩ := List.mem_map.1 hs
      have := (hx i (by have := List.mem_range.1 hi; omega)).2
      rw [Array.length_toList]
      exact this
    · have hi' : i < len := by rw [hlen] at hi; exact hi
      obtain ⟨e, hc⟩ := spot_none (hx 0 (by omega)).1 (hx i (by omega)).1
      refine ⟨a.block, a.off, by rw [← e], ?_⟩
      rw [hc]
      simp [encS]
    · cases e
      exact low_of (hx 0 (by omega)).1
    · simp only [Rows.uptoBulk, bulkAll_map, List.map_map, Function.comp_def]
      omega

theorem open_bytesAt {fuel : Nat} {cs : List Value} {x : DataW H × List MemPlace} (h : DataW.trod enc Tryd.prog w 0 (fun _ => true) held fuel 42 cs = some x) :
    ∃ v l, cs = [v] ∧ BytesAt w v l ∧ LowV w v ∧ l.length + 1 ≤ Rows.uptoBulk x.1 := by
  rcases open_ints Tryd.underlying42 Tryd.underlying5 (by kernel_rfl) h with ⟨rfl, rfl⟩ | ⟨a, len, cap, zs, rfl, -, hl, hm, hz, rfl, hx, hw⟩
  · exact ⟨_, [], rfl, ⟨none, 0, rfl, by simp, fun _ => rfl, fun a e => by cases e⟩, (fun q n c e _ => by cases e), by simp [Rows.uptoBulk]⟩
  · have hz' : zs.length = cap := by simpa using hz
    have hlen : ((zs.take len).map fun n => UInt8.ofNat n.toNat).length = len := by simp; omega
    refine ⟨_, (zs.take len).map fun n => UInt8.ofNat n.toNat, rfl, ⟨some a, cap, by rw [hlen], by rw [hlen]; exact hl, (fun e => by cases e), fun q e i hi => ?_⟩, fun q n c e hn => ?_, ?_⟩
    · cases e
      have hi' : i < len := by rw [hlen] at hi; exact hi
      have h1 := hx i (by omega)
      obtain ⟨e, hc⟩ := spot_none (hx 0 (by omega)) h1
      refine ⟨by rw [e], ?_⟩
      rw [hc]
      have h2 : zs.getD i 0 = zs[i]'(by omega) := by simp [List.getD, List.getElem?_eq_getElem (show i < zs.length by omega)]
      have h3 := hw zs[i] (List.getElem_mem (by omega))
      simp only [Lit.wf, IntKind.min, IntKind.max, IntKind.signed, IntKind.bits, Bool.and_eq_true] at h3
      rw [h2]
      unfold encU8
      rw [List.getElem_map, List.getElem_take]
      have h4 : (UInt8.ofNat (zs[i]'(by omega)).toNat).toNat = (zs[i]'(by omega)).toNat := by
        rw [UInt8.toNat_ofNat']
        simp at h3
        omega
      rw [h4]
      simp at h3
      rw [Int.toNat_of_nonneg h3.1]
    · cases e
      exact low_of (hx 0 (by omega))
    · simp only [Rows.uptoBulk, lits, bulkAll_map]
      rw [sum_ones]
      have : (zs.take len).length = len := by simp; omega
      omega

theorem open_listAt {fuel : Nat} {cs : List Value} {x : DataW H × List MemPlace} (h : DataW.trod enc Tryd.prog w 0 (fun _ => true) held fuel 34 cs = some x) (hb : Rows.uptoBulk x.1 ≤ 1048576) :
    ∃ v ls, cs = [v] ∧ ListAt w v ls ∧ LowV w v ∧ (ls.map fun s => s.length + 1).sum + 1 ≤ Rows.uptoBulk x.1 := by
  rcases Deep.open_slice1 Tryd.underlying34 (by kernel_rfl) h with ⟨rfl, rfl⟩ | ⟨a, len, cap, m, n, V, D, Pl, rfl, -, hl, hm, hmm, rfl, hx⟩
  · exact ⟨_, [], rfl, listAt_nil w, (fun q n c e _ => by cases e), by simp [Rows.uptoBulk]⟩
  · have hlm : len ≤ m := by rw [hmm]; exact hl
    obtain ⟨L, hL⟩ := Deep.choose_lt (n := len) (p := fun i l => BytesAt w (V i) l ∧ l.length + 1 ≤ Rows.uptoBulk (D i)) (fun i hi => by
      obtain ⟨v, l, e, h1, -, h3⟩ := open_bytesAt (hx i (by omega)).2
      simp only [List.cons.injEq, and_true] at e
      subst e
      exact ⟨l, h1, h3⟩)
    have hlen : ((List.range len).map L).length = len := by simp
    have hsum : ((List.range len).map fun i => (L i).length + 1).sum ≤ ((List.range len).map fun i => Rows.uptoBulk (D i)).sum := by
      have : ∀ l : List Nat, (∀ i ∈ l, i < len) → (l.map fun i => (L i).length + 1).sum ≤ (l.map fun i => Rows.uptoBulk (D i)).sum := fun l => by
        induction l with
        | nil => intro _; simp
        | cons y r ih =>
          intro hr
          have h1 := ih fun i hi => hr i (by simp [hi])
          have h2 := (hL y (hr y (by simp))).2
          simp only [List.map_cons, List.sum_cons]
          omega
      exact this _ fun i hi => List.mem_range.1 hi
    have hbulk : ((List.range len).map fun i => Rows.uptoBulk (D i)).sum + 1 ≤ Rows.uptoBulk (.slice ((List.range len).map D) ((List.range (m - len)).map fun j => D (len + j))) := by
      simp only [Rows.uptoBulk, bulkAll_map]
      omega
    have hlow : ∀ l : List Nat, l.length ≤ (l.map fun i => (L i).length + 1).sum := fun l => by
      induction l with
      | nil => simp
      | cons y r ih => simp only [List.length_cons, List.map_cons, List.sum_cons]; omega
    have hlen2 := hlow (List.range len)
    rw [List.length_range] at hlen2
    refine ⟨_, (List.range len).map L, rfl, ⟨some a, cap, by rw [hlen], by rw [hlen]; exact hl, ?_, fun i hi => ?_⟩, fun q n c e hn => ?_, ?_⟩
    · rw [hlen]
      have : Rows.uptoBulk (DataW.slice ((List.range len).map D) ((List.range (m - len)).map fun j => D (len + j))) ≤ 1048576 := hb
      omega
    · have hi' : i < len := by rw [hlen] at hi; exact hi
      obtain ⟨e, hc⟩ := spot_none (hx 0 (by omega)).1 (hx i (by omega)).1
      refine ⟨a.block, a.off, V i, by rw [← e], hc, ?_⟩
      simpa using (hL i hi').1
    · cases e
      exact low_of (hx 0 (by omega)).1
    · rw [List.map_map]
      exact Nat.le_trans (Nat.succ_le_succ hsum) hbulk

theorem open_intsAt {fuel : Nat} {cs : List Value} {x : DataW H × List MemPlace} (h : DataW.trod enc Tryd.prog w 0 (fun _ => true) held fuel 35 cs = some x) :
    ∃ v ks, cs = [v] ∧ IntsAt w v ks ∧ LowV w v ∧ ks.length + 1 ≤ Rows.uptoBulk x.1 := by
  rcases open_ints Tryd.underlying35 Tryd.underlying3 (by kernel_rfl) h with ⟨rfl, rfl⟩ | ⟨a, len, cap, zs, rfl, -, hl, hm, hz, rfl, hx, hw⟩
  · exact ⟨_, [], rfl, intsAt_nil w, (fun q n c e _ => by cases e), by simp [Rows.uptoBulk]⟩
  · have hz' : zs.length = cap := by simpa using hz
    have hlen : (zs.take len).length = len := by simp; omega
    refine ⟨_, zs.take len, rfl, ⟨some a, cap, by rw [hlen], by rw [hlen]; omega, fun n hn => ?_, fun i hi => ?_⟩, fun q n c e hn => ?_, ?_⟩
    · have h3 := hw n (List.mem_of_mem_take hn)
      simp [Lit.wf, IntKind.min, IntKind.max, IntKind.signed, IntKind.bits] at h3
      omega
    · have hi' : i < len := by rw [hlen] at hi; exact hi
      obtain ⟨e, hc⟩ := spot_none (hx 0 (by omega)) (hx i (by omega))
      refine ⟨a.block, a.off, by rw [← e], ?_⟩
      rw [hc]
      simp [List.getD, List.getElem?_eq_getElem (show i < zs.length by omega)]
    · cases e
      exact low_of (hx 0 (by omega))
    · simp only [Rows.uptoBulk, lits, bulkAll_map]
      rw [sum_ones]
      have : (zs.take len).length = len := by simp; omega
      omega

theorem IntsAt.belowH {w w' : World} {v : Value} {ks : List Int} (h : IntsAt w v ks) (hb : Below w.heap.size w w') : IntsAt w' v ks := by
  obtain ⟨p, cap, rfl, h1, h2, h3⟩ := h
  refine ⟨p, cap, rfl, h1, h2, fun i hi => ?_⟩
  obtain ⟨b, off, e, hc⟩ := h3 i hi
  exact ⟨b, off, e, by rw [hb.cell (p := ⟨b, off + i, none⟩) (World.block_lt_of_cell? w _ hc)]; exact hc⟩

theorem open_act {fuel : Nat} {cs : List Value} {x : DataW H × List MemPlace} (h : DataW.trod enc Tryd.prog w 0 (fun _ => true) held fuel 37 cs = some x) (hb : Rows.uptoBulk x.1 ≤ 1048576) :
    ∃ (a : ActM) (y : ActV), cs = [.int .i64 a.kind, y.nv, y.bv, .int .i64 a.n, y.kv] ∧ (∀ w', Below w.heap.size w w' → ActAt w' a y) ∧ LowAct w.heap.size y ∧ a.size ≤ Rows.uptoBulk x.1 := by
  obtain ⟨x0, x1, x2, x3, x4, n, hx1, hl, f0, f1, f2, f3, f4⟩ := trod_struct5 Tryd.underlying37 h
  rw [show Tryd.prog.cellsOf 37 = 5 from by kernel_rfl] at hl
  obtain ⟨c0, c1, c2, c3, c4, rfl⟩ := five hl
  have e3 : Tryd.prog.cellsOf 3 = 1 := by kernel_rfl
  have e33 : Tryd.prog.cellsOf 33 = 1 := by kernel_rfl
  have e34 : Tryd.prog.cellsOf 34 = 1 := by kernel_rfl
  have e35 : Tryd.prog.cellsOf 35 = 1 := by kernel_rfl
  simp only [e3, e33, e34, e35, List.drop_zero, List.take_succ_cons, List.take_zero, List.drop_succ_cons] at f0 f1 f2 f3 f4
  rw [hx1] at hb ⊢
  simp only [Rows.uptoBulk, Rows.uptoBulkAll] at hb ⊢
  obtain ⟨k, e, rfl, hk⟩ := DataW.trod_int Tryd.underlying3 f0
  simp only [List.cons.injEq, and_true] at e
  subst e
  obtain ⟨v1, ss, e, h1, l1, b1⟩ := open_strsAt f1
  simp only [List.cons.injEq, and_true] at e
  subst e
  obtain ⟨v2, ls, e, h2, l2, b2⟩ := open_listAt f2 (by omega)
  simp only [List.cons.injEq, and_true] at e
  subst e
  obtain ⟨m, e, rfl, hm⟩ := DataW.trod_int Tryd.underlying3 f3
  simp only [List.cons.injEq, and_true] at e
  subst e
  obtain ⟨v4, ks, e, h4, l4, b4⟩ := open_intsAt f4
  simp only [List.cons.injEq, and_true] at e
  subst e
  simp [Lit.wf, IntKind.min, IntKind.max, IntKind.signed, IntKind.bits] at hk hm
  refine ⟨⟨k, ss, ls, m, ks⟩, ⟨c1, c2, c4⟩, rfl, fun w' hw => ⟨h1.below hw, h2.belowH hw, h4.belowH hw, hk.1, by have := hk.2; omega, hm.1, by have := hm.2; omega⟩, fun q n c e hn => ?_, ?_⟩
  · rcases e with e | e | e
    · exact l1 q n c e hn
    · exact l2 q n c e hn
    · exact l4 q n c e hn
  · show ks.length + 1 + (ss.map fun s => s.length + 1).sum + (ls.map fun s => s.length + 1).sum ≤ _
    omega

theorem open_actsAt {fuel : Nat} {cs : List Value} {x : DataW H × List MemPlace} (h : DataW.trod enc Tryd.prog w 0 (fun _ => true) held fuel 22 cs = some x) (hb : Rows.uptoBulk x.1 ≤ 1048576) :
    ∃ v acts, cs = [v] ∧ ActsAt w v acts ∧ ∀ a ∈ acts, a.size ≤ 1048576 := by
  rcases Deep.open_slice Tryd.underlying22 h with ⟨rfl, rfl⟩ | ⟨a, len, cap, m, n, D, Pl, rfl, -, hl, hm, hmm, rfl, hx⟩
  · exact ⟨_, [], rfl, ⟨none, 0, rfl, by simp [maxLen], fun i hi => by simp at hi⟩, fun a ha => by cases ha⟩
  · have hlm : len ≤ m := by rw [hmm]; exact hl
    rw [show Tryd.prog.cellsOf 37 = 5 from by kernel_rfl] at hx
    have hD : ∀ i, i < len → Rows.uptoBulk (D i) ≤ 1048576 := fun i hi => by
      have h1 : Rows.uptoBulk (D i) ∈ (List.range len).map fun i => Rows.uptoBulk (D i) := List.mem_map.2 ⟨i, List.mem_range.2 hi, rfl⟩
      have h2 := le_sum h1
      have h3 : ((List.range len).map fun i => Rows.uptoBulk (D i)).sum ≤ Rows.uptoBulk (.slice ((List.range len).map D) ((List.range (m - len)).map fun j => D (len + j))) := by
        simp only [Rows.uptoBulk, bulkAll_map]
        omega
      exact Nat.le_trans h2 (Nat.le_trans h3 hb)
    obtain ⟨F, hF⟩ := Deep.choose_lt (α := ActM) (n := len) (p := fun i a' => ∃ y : ActV, w.cells? 0 (a.add (i * 5)) 5 = some [.int .i64 a'.kind, y.nv, y.bv, .int .i64 a'.n, y.kv] ∧ (∀ w', Below w.heap.size w w' → ActAt w' a' y) ∧ LowAct w.heap.size y ∧ a'.size ≤ 1048576) (fun i hi => by
      obtain ⟨cs', h1, h2⟩ := hx i (by omega)
      obtain ⟨a', y, e, h3, h4, h5⟩ := open_act h2 (hD i hi)
      subst e
      exact ⟨a', y, h1, h3, h4, Nat.le_trans h5 (hD i hi)⟩)
    have hlen : ((List.range len).map F).length = len := by simp
    refine ⟨_, (List.range len).map F, rfl, ⟨some a, cap, by rw [hlen], by rw [hlen]; omega, fun i hi => ?_⟩, fun a' ha => ?_⟩
    · have hi' : i < len := by rw [hlen] at hi; exact hi
      obtain ⟨y, h1, h2, h3, -⟩ := hF i hi'
      obtain ⟨-, -, hc⟩ := World.cells?_some h1
      have k0 := hc 0 (by omega)
      have k1 := hc 1 (by omega)
      have k2 := hc 2 (by omega)
      have k3 := hc 3 (by omega)
      have k4 := hc 4 (by omega)
      rw [Deep.add_add] at k0 k1 k2 k3 k4
      obtain ⟨y0, g1, -⟩ := hF 0 (by omega)
      obtain ⟨-, -, hc0⟩ := World.cells?_some g1
      have k00 := hc0 0 (by omega)
      rw [Deep.add_add] at k00
      obtain ⟨e, k0'⟩ := spot_none k00 k0
      have k1 := (spot_none k00 k1).2
      have k2 := (spot_none k00 k2).2
      have k3 := (spot_none k00 k3).2
      have k4 := (spot_none k00 k4).2
      have hg : ((List.range len).map F)[i] = F i := by simp
      rw [hg]
      refine ⟨a.block, a.off, y, by rw [← e], (show a.block < w.heap.size from World.block_lt_of_cell? w ⟨a.block, a.off + (i * 5 + 0), none⟩ k0'), ⟨k0', k1, k2, k3, k4⟩, h2, h3⟩
    · obtain ⟨i, hi, rfl⟩ := List.mem_map.1 ha
      obtain ⟨y, -, -, -, h5⟩ := hF i (List.mem_range.1 hi)
      exact h5

end
end Go.Proofs.YtglkonhhknaomaaDoor
