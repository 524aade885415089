/- The disk's calls where what is handed in lies in new blocks of known cells: contracts with plain premises. -/
import Derived.Test.YtglkonhhknaomaaDoorEchCrash
import Derived.Lib.SlBytesConst
import Derived.Lib.BufferRead
namespace Go.Proofs.YtglkonhhknaomaaDoor
open Go.RowKit Go.Maps

theorem blk_new1 (w : World) (o1 o2 : Obj) : ((w.alloc o1).alloc o2).heap[w.heap.size + 1]? = some o2 := by
  have := blk_new (w.alloc o1) o2
  simpa using this
theorem blk_new2 (w : World) (o1 o2 o3 : Obj) : (((w.alloc o1).alloc o2).alloc o3).heap[w.heap.size + 2]? = some o3 := by
  have := blk_new ((w.alloc o1).alloc o2) o3
  simpa using this

theorem bytesAt_blk {w : World} {b n : Nat} {cs : Array Value} {t : TypeId} {fr : Nat × Nat} (l : List UInt8) (h : w.heap[b]? = some (.cells cs t fr)) (hc : cs.toList = l.map encU8) (hn : n = l.length) : BytesAt w (.slice (some ⟨b, 0, none⟩) n n) l := by
  subst hn
  refine ⟨_, _, rfl, Nat.le_refl _, (fun e => by cases e), fun a e => ?_⟩
  cases e
  refine fun i hi => ⟨rfl, ?_⟩
  rw [blk_cell h]
  have e : cs[0 + i]? = (l.map encU8)[i]? := by rw [← hc]; simp
  simpa [hi] using e

/-- '[]byte("constant")', its block just made; and behind another one. -/
theorem conv_const (w : World) (C : Array Value) (n c : Nat) : (convert 42 42 (.slice (some ⟨w.heap.size, 0, none⟩) n c)).run Tryd.prog (w.alloc (.cells C 5)) = .ok (.slice (some ⟨w.heap.size, 0, none⟩) n c) (w.alloc (.cells C 5 (C.size, C.size + 1))) :=
  Lib.run_convert_bytes_const (P := Tryd.prog) w 42 5 C n c Tryd.underlying42 Tryd.underlying5
theorem conv_const1 (w : World) (o : Obj) (C : Array Value) (n c : Nat) : (convert 42 42 (.slice (some ⟨w.heap.size + 1, 0, none⟩) n c)).run Tryd.prog ((w.alloc o).alloc (.cells C 5)) = .ok (.slice (some ⟨w.heap.size + 1, 0, none⟩) n c) ((w.alloc o).alloc (.cells C 5 (C.size, C.size + 1))) := by
  have := conv_const (w.alloc o) C n c
  rw [show (w.alloc o).heap.size = w.heap.size + 1 by simp] at this
  exact this
/-- 'string(b)'. -/
theorem conv_string {w : World} {v : Value} {l : List UInt8} (h : BytesAt w v l) : (convert 42 9 v).run Tryd.prog w = .ok (.string ⟨l.toArray⟩) w := by
  obtain ⟨p, cap, rfl, h1, h2, h3⟩ := h
  cases p with
  | none =>
    have hz : l = [] := List.eq_nil_of_length_eq_zero (by have := h2 rfl; omega)
    subst hz
    exact Lib.run_convert_nil_bytes w _ _ _ cap Tryd.underlying42 Tryd.underlying5 Tryd.underlying9
  | some a =>
    refine run_convert_bytes_back w _ _ _ a cap l Tryd.underlying42 Tryd.underlying5 Tryd.underlying9 fun j hj => ?_
    obtain ⟨hs, hc⟩ := h3 a rfl j hj
    obtain ⟨b, off, spot⟩ := a
    simp only at hs
    subst hs
    rw [addr_add]
    exact hc

theorem listAt_nil (w : World) : ListAt w (.slice none 0 0) [] := ⟨none, 0, rfl, by simp, by simp, fun i hi => by simp at hi⟩
theorem listAt_one {w : World} {b : Nat} {u : Value} {t : TypeId} {fr : Nat × Nat} {l : List UInt8} (h : w.heap[b]? = some (.cells #[u] t fr)) (hb : BytesAt w u l) : ListAt w (.slice (some ⟨b, 0, none⟩) 1 1) [l] := by
  refine ⟨_, _, rfl, by simp, by simp, fun i hi => ?_⟩
  obtain rfl : i = 0 := by simpa using hi
  exact ⟨b, 0, u, rfl, by rw [blk_cell h]; rfl, hb⟩
theorem listAt_two {w : World} {b : Nat} {u v : Value} {t : TypeId} {fr : Nat × Nat} {l m : List UInt8} (h : w.heap[b]? = some (.cells #[u, v] t fr)) (hb : BytesAt w u l) (hc : BytesAt w v m) : ListAt w (.slice (some ⟨b, 0, none⟩) 2 2) [l, m] := by
  refine ⟨_, _, rfl, by simp, by simp, fun i hi => ?_⟩
  have hi' : i = 0 ∨ i = 1 := by simp at hi; omega
  rcases hi' with rfl | rfl
  · exact ⟨b, 0, u, rfl, by rw [blk_cell h]; rfl, hb⟩
  · exact ⟨b, 0, v, rfl, by rw [blk_cell h]; rfl, hc⟩
theorem strsAt_nil (w : World) : StrsAt w (.slice none 0 0) [] := ⟨none, 0, rfl, by simp [maxLen], by simp, fun i hi => by simp at hi⟩
theorem strsAt_lit {w : World} {b : Nat} {t : TypeId} {fr : Nat × Nat} (s : ByteArray) (h : w.heap[b]? = some (.cells #[.string s] t fr)) (hs : s.size ≤ maxLen) : StrsAt w (.slice (some ⟨b, 0, none⟩) 1 1) [s.data.toList] := by
  refine ⟨_, _, rfl, by simp [maxLen], (fun x hx => by rw [List.mem_singleton] at hx; subst hx; rw [Array.length_toList]; exact hs), fun i hi => ?_⟩
  obtain rfl : i = 0 := by simpa using hi
  exact ⟨b, 0, rfl, by rw [blk_cell h]; rfl⟩
theorem intsAt_nil (w : World) : IntsAt w (.slice none 0 0) [] := ⟨none, 0, rfl, by simp [maxLen], by simp, fun i hi => by simp at hi⟩
theorem intsAt_blk {w : World} {b n : Nat} {cs : Array Value} {t : TypeId} {fr : Nat × Nat} (ks : List Int) (h : w.heap[b]? = some (.cells cs t fr)) (hc : cs.toList = ks.map (Value.int .i64)) (hn : n = ks.length) (hm : ks.length ≤ maxLen) (hk : ∀ x ∈ ks, -9223372036854775808 ≤ x ∧ x ≤ 9223372036854775807) : IntsAt w (.slice (some ⟨b, 0, none⟩) n n) ks := by
  subst hn
  refine ⟨_, _, rfl, hm, hk, fun i hi => ⟨b, 0, rfl, ?_⟩⟩
  rw [blk_cell h]
  have e : cs[0 + i]? = (ks.map (Value.int .i64))[i]? := by rw [← hc]; simp
  simpa [hi] using e

section
variable {w : World} {S : Nat → Prop} {d mb : Nat} {st : DSt} {fs : List FileR}

/-- What a call of the disk leaves: its answer, the disk. -/
def LitPost (w : World) (S : Nat → Prop) (d mb : Nat) (k : Int) (st : DSt) (e : Ending) (w' : World) : Prop :=
  e = .returned (.int .i64 k) ∧ Mod S w w' ∧ ∃ fs, DiskAt w' (Plus S w w') d mb st fs

theorem append_lit (h : DiskAt w S d mb st fs) (s : ByteArray) (hs : s.size ≤ maxLen) (bv : Value) (bs : List (List UInt8)) (hb : ListAt w bv bs) {c : Nat} {st' : DSt} (hr : st.append s.data.toList bs.flatten = (c, st')) (k : Int) (hk : (c : Int) = k) (hsum : total st.files + bs.flatten.length ≤ 1099511627776) :
    Calls Tryd.prog 14 #[.pointer (some ⟨d, 0, none⟩), .string s, bv] w (LitPost w S d mb k st') := by
  refine (append_any h s hs bv bs hb hsum).mono ?_
  rw [hr]
  rintro e w' ⟨rfl, hm, hd⟩
  exact ⟨by rw [← hk], hm, hd⟩
theorem sync_lit (h : DiskAt w S d mb st fs) (v : Value) (ss : List (List UInt8)) (hss : StrsAt w v ss) (hout : ∀ p n c, v = .slice (some p) n c → 0 < n → ¬ S p.block) {c : Nat} {st' : DSt} (hr : st.sync ss = (c, st')) (k : Int) (hk : (c : Int) = k) :
    Calls Tryd.prog 16 #[.pointer (some ⟨d, 0, none⟩), v] w (LitPost w S d mb k st') := by
  refine (sync_any h v ss hss hout).mono ?_
  rw [hr]
  rintro e w' ⟨rfl, hm, hd⟩
  exact ⟨by rw [← hk], hm, hd⟩
theorem crash_lit (h : DiskAt w S d mb st fs) (v : Value) (ks : List Int) (hks : IntsAt w v ks) (hout : ∀ p n c, v = .slice (some p) n c → 0 < n → ¬ S p.block) {c : Nat} {st' : DSt} (hr : goneF st.files ks = c) (hr2 : st.crash ks = st') (k : Int) (hk : (c : Int) = k) :
    Calls Tryd.prog 10 #[.pointer (some ⟨d, 0, none⟩), v] w (LitPost w S d mb k st') := by
  refine (crash_any h v ks hks hout).mono ?_
  rintro e w' ⟨rfl, hm, hd⟩
  rw [hr2] at hd
  exact ⟨by rw [hr, ← hk], hm, hd⟩
theorem new_lit (w : World) (k : Int) (h0 : 0 ≤ k) (h1 : k ≤ 9223372036854775807) :
    Calls Tryd.prog 6 #[.int .i64 k] w fun e w' => ∃ d mb, e = .returned (.tuple #[.pointer (some ⟨d, 0, none⟩), .int .i64 0]) ∧ DiskAt w' (Plus Nil w w') d mb ⟨k.toNat, -1, []⟩ [] ∧ Mod Nil w w' := by
  obtain ⟨n, rfl⟩ := Int.eq_ofNat_of_zero_le h0
  exact new_any w n (by omega)

/-- A disk whose blocks lie from B on, and of what lay below B nothing has turned since w0. -/
def DiskOwn (B : Nat) (w0 w : World) (d mb : Nat) (st : DSt) : Prop :=
  ∃ S fs, DiskAt w S d mb st fs ∧ (∀ k, S k → B ≤ k) ∧ Below B w0 w ∧ B ≤ w.heap.size
def OwnPost (B : Nat) (w0 : World) (d mb : Nat) (k : Int) (st : DSt) (e : Ending) (w' : World) : Prop := e = .returned (.int .i64 k) ∧ DiskOwn B w0 w' d mb st

variable {B : Nat} {w0 : World}
theorem DiskOwn.nil (h : DiskOwn B w0 w d mb st) {w' : World} (hm : Mod Nil w w') : DiskOwn B w0 w' d mb st := by
  obtain ⟨S, fs, hd, hl, hb, hB⟩ := h
  exact ⟨S, fs, hd.kept hm (fun _ _ e => e), hl, hb.trans (hm.below hB (fun _ e => e.elim)), Nat.le_trans hB hm.size⟩
theorem DiskOwn.alloc (h : DiskOwn B w0 w d mb st) (o : Obj) : DiskOwn B w0 (w.alloc o) d mb st := h.nil ((Mod.refl Nil _).alloc _)
theorem DiskOwn.below (h : DiskOwn B w0 w d mb st) : Below B w0 w := by obtain ⟨S, fs, hd, hl, hb, hB⟩ := h; exact hb
theorem DiskOwn.wf (h : DiskOwn B w0 w d mb st) : st.wf := by obtain ⟨S, fs, hd, hl, hb, hB⟩ := h; exact hd.wf
theorem DiskOwn.of_lit (hl : ∀ k, S k → B ≤ k) (hb : Below B w0 w) (hB : B ≤ w.heap.size) {k : Int} {st' : DSt} {e : Ending} {w' : World} (h : LitPost w S d mb k st' e w') : OwnPost B w0 d mb k st' e w' := by
  obtain ⟨rfl, hm, fs, hd⟩ := h
  refine ⟨rfl, _, fs, hd, fun k hk => ?_, hb.trans (hm.below hB hl), Nat.le_trans hB hm.size⟩
  rcases hk with hk | hk
  · exact hl k hk
  · exact Nat.le_trans hB hk.1

theorem new_own (w : World) (k : Int) (h0 : 0 ≤ k) (h1 : k ≤ 9223372036854775807) (hb : Below B w0 w) (hB : B ≤ w.heap.size) :
    Calls Tryd.prog 6 #[.int .i64 k] w fun e w' => ∃ d mb, e = .returned (.tuple #[.pointer (some ⟨d, 0, none⟩), .int .i64 0]) ∧ DiskOwn B w0 w' d mb ⟨k.toNat, -1, []⟩ := by
  refine (new_lit w k h0 h1).mono ?_
  rintro e w' ⟨d, mb, rfl, hd, hm⟩
  refine ⟨d, mb, rfl, _, [], hd, fun k hk => ?_, hb.trans (hm.below hB (fun _ e => e.elim)), Nat.le_trans hB hm.size⟩
  rcases hk with hk | hk
  · exact hk.elim
  · exact Nat.le_trans hB hk.1
theorem append_own (h : DiskOwn B w0 w d mb st) (s : ByteArray) (hs : s.size ≤ maxLen) (bv : Value) (bs : List (List UInt8)) (hb : ListAt w bv bs) {c : Nat} {st' : DSt} (hr : st.append s.data.toList bs.flatten = (c, st')) (k : Int) (hk : (c : Int) = k) (hsum : total st.files + bs.flatten.length ≤ 1099511627776) :
    Calls Tryd.prog 14 #[.pointer (some ⟨d, 0, none⟩), .string s, bv] w (OwnPost B w0 d mb k st') := by
  obtain ⟨S, fs, hd, hl, hb0, hB⟩ := h
  exact (append_lit hd s hs bv bs hb hr k hk hsum).mono fun e w' h => DiskOwn.of_lit hl hb0 hB h
theorem sync_own (h : DiskOwn B w0 w d mb st) (s : ByteArray) (hs : s.size ≤ maxLen) (t : TypeId) {c : Nat} {st' : DSt} (hr : st.sync [s.data.toList] = (c, st')) (k : Int) (hk : (c : Int) = k) :
    Calls Tryd.prog 16 #[.pointer (some ⟨d, 0, none⟩), .slice (some ⟨w.heap.size, 0, none⟩) 1 1] (w.alloc (.cells #[.string s] t)) (OwnPost B w0 d mb k st') := by
  obtain ⟨S, fs, hd, hl, hb0, hB⟩ := h
  have hm : Mod Nil w (w.alloc (.cells #[.string s] t)) := (Mod.refl Nil _).alloc _
  refine (sync_lit (hd.kept hm (fun _ _ e => e)) _ [s.data.toList] (strsAt_lit s (blk_new w _) hs) (fun p n c e _ hS => ?_) hr k hk).mono fun e w' h => DiskOwn.of_lit hl (hb0.trans (hm.below hB (fun _ e => e.elim))) (Nat.le_trans hB hm.size) h
  cases e
  exact Nat.lt_irrefl _ (hd.inS _ hS)
theorem crash_own (h : DiskOwn B w0 w d mb st) {n : Nat} {cs : Array Value} (t : TypeId) (ks : List Int) (hc : cs.toList = ks.map (Value.int .i64)) (hn : n = ks.length) (hm : ks.length ≤ maxLen) (hks : ∀ x ∈ ks, -9223372036854775808 ≤ x ∧ x ≤ 9223372036854775807) {c : Nat} {st' : DSt} (hr : goneF st.files ks = c) (hr2 : st.crash ks = st') (k : Int) (hk : (c : Int) = k) :
    Calls Tryd.prog 10 #[.pointer (some ⟨d, 0, none⟩), .slice (some ⟨w.heap.size, 0, none⟩) n n] (w.alloc (.cells cs t)) (OwnPost B w0 d mb k st') := by
  obtain ⟨S, fs, hd, hl, hb0, hB⟩ := h
  have hm0 : Mod Nil w (w.alloc (.cells cs t)) := (Mod.refl Nil _).alloc _
  refine (crash_lit (hd.kept hm0 (fun _ _ e => e)) _ ks (intsAt_blk ks (blk_new w _) hc hn hm hks) (fun p n c e _ hS => ?_) hr hr2 k hk).mono fun e w' h => DiskOwn.of_lit hl (hb0.trans (hm0.below hB (fun _ e => e.elim))) (Nat.le_trans hB hm0.size) h
  cases e
  exact Nat.lt_irrefl _ (hd.inS _ hS)
theorem read_own (h : DiskOwn B w0 w d mb st) (s : ByteArray) (hs : s.size ≤ maxLen) (f : DFile) (hf : findF st.files s.data.toList = some f) :
    Calls Tryd.prog 13 #[.pointer (some ⟨d, 0, none⟩), .string s] w fun e w' => ∃ v, e = .returned (.tuple #[v, .bool true]) ∧ NewBytes w.heap.size w' v f.data ∧ DiskOwn B w0 w' d mb st := by
  obtain ⟨S, fs, hd, hl, hb0, hB⟩ := h
  refine (read_some hd s hs f hf).mono ?_
  rintro e w' ⟨v, rfl, hn, hb⟩
  exact ⟨v, rfl, hn, DiskOwn.nil ⟨S, fs, hd, hl, hb0, hB⟩ (Mod.ofBelow hb Nil)⟩

end

end Go.Proofs.YtglkonhhknaomaaDoor
