/- How a disk lies in memory: its block, its map, each file's block and bytes; what look-ups in its map answer; what is kept of it. -/
import Derived.Test.YtglkonhhknaomaaDoorEchBase
import Derived.Test.YtglkonhhknaomaaDoorEchPure
namespace Go.Proofs.YtglkonhhknaomaaDoor
open Go.RowKit Go.Maps Go.WideMaps

/-- A file, with the places where it lies. -/
structure FileR where
  name : List UInt8
  blk : Nat
  v : Value
  data : List UInt8
  safe : Nat
def FileR.abs (f : FileR) : DFile := ⟨f.name, f.data, f.safe⟩
def FileR.blks (f : FileR) : List Nat := f.blk :: f.v.ownBlock.toList

def encS (s : List UInt8) : Value := .string ⟨s.toArray⟩

/-- How a pointer to a file reads, as a map's element. -/
def ptrR (v : Value) : Option (DataW Unit × List MemPlace) :=
  match v with
  | .pointer (some ⟨b, 0, none⟩) => some (.lit (.int .u64 b), [])
  | .pointer none => some (.nil, [])
  | _ => none
def Dof (fs : List FileR) : DataW Unit := .map (fs.map fun f => (.string f.name, .lit (.int .u64 f.blk)))

theorem ptrR_lit {v : Value} {b : Nat} {ps : List MemPlace} (h : ptrR v = some (.lit (.int .u64 b), ps)) : v = .pointer (some ⟨b, 0, none⟩) := by
  unfold ptrR at h
  split at h
  · simp only [Option.some.injEq, Prod.mk.injEq, DataW.lit.injEq, Lit.int.injEq] at h
    obtain ⟨⟨_, h⟩, _⟩ := h
    have : ‹Nat› = b := by omega
    subst this
    rfl
  · simp at h
  · cases h
theorem ptrR_nil {v : Value} {ps : List MemPlace} (h : ptrR v = some (.nil, ps)) : v = .pointer none := by
  unfold ptrR at h
  split at h
  · simp at h
  · rfl
  · cases h

def findR (fs : List FileR) (s : List UInt8) : Option FileR := fs.find? fun f => f.name == s
def lookV (fs : List FileR) (s : List UInt8) : Value := match findR fs s with | some f => .pointer (some ⟨f.blk, 0, none⟩) | none => .pointer none

def FileAt (w : World) (f : FileR) : Prop :=
  w.heap[f.blk]? = some (.cells #[f.v, .int .i64 (f.safe : Int)] 63 (0, 0)) ∧ OwnBytes w f.v f.data

/-- No block is two things. -/
structure Apart (d mb : Nat) (fs : List FileR) : Prop where
  ne : d ≠ mb
  out : ∀ f ∈ fs, ∀ k ∈ f.blks, k ≠ d ∧ k ≠ mb
  pair : fs.Pairwise fun f g => ∀ k ∈ f.blks, k ∉ g.blks
  self : ∀ f ∈ fs, f.v.ownBlock ≠ some f.blk

structure DiskAt (w : World) (S : Nat → Prop) (d mb : Nat) (st : DSt) (fs : List FileR) : Prop where
  blk : w.heap[d]? = some (.cells #[.int .i64 (st.room : Int), .map (some mb), .int .i64 st.calls] 52 (0, 0))
  map : w.ownsMap Tryd.prog 9 ptrR mb fs.length (Dof fs)
  files : ∀ f ∈ fs, FileAt w f
  apart : Apart d mb fs
  ownD : S d
  ownM : S mb
  own : ∀ f ∈ fs, ∀ k ∈ f.blks, S k
  inS : ∀ k, S k → k < w.heap.size
  abs : st.files = fs.map FileR.abs
  wf : st.wf
def DiskIn (w : World) (S : Nat → Prop) (d : Nat) (st : DSt) : Prop := ∃ mb fs, DiskAt w S d mb st fs

theorem keyed9 : Keyed Tryd.prog 9 := string_keyed Tryd.underlying9
theorem zero61 (w : World) : (zeroValue 61).run Tryd.prog w = .ok (.pointer none) w := by kernel_rfl
theorem key_string (s : ByteArray) (h : s.size ≤ maxLen) : keyOf Tryd.prog 9 (.string s) = some (.string s.data.toList) := keyOf_string_mk Tryd.underlying9 h

theorem atKey_Dof (fs : List FileR) (s : List UInt8) (z : DataW Unit) :
    (Dof fs).atKey (.string s) z = match findR fs s with | some f => .lit (.int .u64 f.blk) | none => z := by
  unfold Dof DataW.atKey findR
  simp only [List.find?_map]
  induction fs with
  | nil => rfl
  | cons f r ih =>
    simp only [List.find?_cons, Function.comp, Lit.sameKey]
    cases (f.name == s)
    · exact ih
    · rfl

section
variable {w : World} {S : Nat → Prop} {d mb : Nat} {st : DSt} {fs : List FileR}

theorem DiskAt.lookup (h : DiskAt w S d mb st fs) (s : ByteArray) (hs : s.size ≤ maxLen) :
    (Instr.lookup 50 (.map (some mb)) (.string s) false).run Tryd.prog w = .ok (lookV fs s.data.toList) w := by
  obtain ⟨v, ps, hr, hv⟩ := h.map.lookup keyed9 Tryd.underlying50 (zero61 w) (zd := .nil) (zp := []) rfl (key_string s hs)
  rw [hr]
  rw [atKey_Dof] at hv
  unfold lookV
  split at hv
  · rw [ptrR_lit hv]
  · rw [ptrR_nil hv]

theorem DiskAt.len (h : DiskAt w S d mb st fs) (ty : TypeId) : (Builtin.len_ #[50] ty #[.map (some mb)]).run Tryd.prog w = .ok (.int .i64 fs.length) w := by
  have := h.map.len Tryd.underlying50 ty
  simpa [Dof, Maps.size] using this

theorem DiskAt.cells (h : DiskAt w S d mb st fs) :
    w.cell? ⟨d, 0, none⟩ = some (.int .i64 (st.room : Int)) ∧ w.cell? ⟨d, 1, none⟩ = some (.map (some mb)) ∧ w.cell? ⟨d, 2, none⟩ = some (.int .i64 st.calls) ∧ ∀ o, w.frozen? ⟨d, o, none⟩ = false := by
  refine ⟨?_, ?_, ?_, blk_frozen h.blk⟩ <;> rw [blk_cell h.blk] <;> rfl

theorem FileAt.cells {f : FileR} (h : FileAt w f) :
    w.cell? ⟨f.blk, 0, none⟩ = some f.v ∧ w.cell? ⟨f.blk, 1, none⟩ = some (.int .i64 (f.safe : Int)) ∧ ∀ o, w.frozen? ⟨f.blk, o, none⟩ = false := by
  refine ⟨?_, ?_, blk_frozen h.1⟩ <;> rw [blk_cell h.1] <;> rfl

theorem FileAt.kept {f : FileR} (h : FileAt w f) {T : Nat → Prop} {w' : World} (hm : Mod T w w') (hn : ∀ k ∈ f.blks, ¬ T k) : FileAt w' f :=
  ⟨blk_mod hm h.1 (hn _ (by simp [FileR.blks])), h.2.kept hm (fun k hk => hn k (by simp [FileR.blks, hk]))⟩

/-- What others turn leaves the disk as it is. -/
theorem DiskAt.kept (h : DiskAt w S d mb st fs) {T : Nat → Prop} {w' : World} (hm : Mod T w w') (hn : ∀ k, S k → ¬ T k) : DiskAt w' S d mb st fs where
  blk := blk_mod hm h.blk (hn _ h.ownD)
  map := by
    obtain ⟨es, clock, hb, r⟩ := h.map
    exact ⟨es, clock, blk_mod hm hb (hn _ h.ownM), r⟩
  files := fun f hf => (h.files f hf).kept hm (fun k hk => hn _ (h.own f hf k hk))
  apart := h.apart
  ownD := h.ownD
  ownM := h.ownM
  own := h.own
  inS := fun k hk => Nat.lt_of_lt_of_le (h.inS k hk) hm.size
  abs := h.abs
  wf := h.wf
theorem DiskIn.kept (h : DiskIn w S d st) {T : Nat → Prop} {w' : World} (hm : Mod T w w') (hn : ∀ k, S k → ¬ T k) : DiskIn w' S d st := by
  obtain ⟨mb, fs, h⟩ := h
  exact ⟨mb, fs, h.kept hm hn⟩
theorem DiskIn.inS (h : DiskIn w S d st) : ∀ k, S k → k < w.heap.size := by obtain ⟨mb, fs, h⟩ := h; exact h.inS
theorem DiskIn.wf (h : DiskIn w S d st) : st.wf := by obtain ⟨mb, fs, h⟩ := h; exact h.wf
theorem DiskIn.bigger (h : DiskIn w S d st) {S' : Nat → Prop} (hs : ∀ k, S k → S' k) (hl : ∀ k, S' k → k < w.heap.size) : DiskIn w S' d st := by
  obtain ⟨mb, fs, h⟩ := h
  exact ⟨mb, fs, { h with ownD := hs _ h.ownD, ownM := hs _ h.ownM, own := fun f hf k hk => hs k (h.own f hf k hk), inS := hl }⟩

theorem findR_abs (fs : List FileR) (s : List UInt8) : findF (fs.map FileR.abs) s = (findR fs s).map FileR.abs := by
  unfold findF findR
  induction fs with
  | nil => rfl
  | cons f r ih => simp only [List.map_cons, List.find?_cons]; show (match f.name == s with | true => _ | false => _) = _; cases (f.name == s) <;> simp [ih]

theorem findR_split {fs : List FileR} {s : List UInt8} {f : FileR} (h : findR fs s = some f) : f.name = s ∧ ∃ pre post, fs = pre ++ f :: post := by
  refine ⟨by have := List.find?_some h; simpa using this, ?_⟩
  exact List.append_of_mem (List.mem_of_find?_eq_some h)

end
end Go.Proofs.YtglkonhhknaomaaDoor
