/- The disk as plain data: what each call answers, and what the disk is behind it. No program in sight. -/
import GoSem.ClaimWide
import Derived.WideAt
namespace Go.Proofs.YtglkonhhknaomaaDoor
open Go

structure DFile where
  name : List UInt8
  data : List UInt8
  safe : Nat

/-- calls: so many more are done; below 0: all. -/
structure DSt where
  room : Nat
  calls : Int
  files : List DFile

def nameByte (c : UInt8) : Bool := (97 ≤ c && c ≤ 122) || (48 ≤ c && c ≤ 57) || c == 45 || c == 46
def nameOk (s : List UInt8) : Bool := decide (0 < s.length) && decide (s.length ≤ 32) && s.all nameByte

def total (l : List DFile) : Nat := (l.map fun f => f.data.length).sum
def DSt.free (st : DSt) : Nat := st.room - total st.files

/-- Is the call refused? (If not, one less is to be done.) -/
def DSt.halts (st : DSt) : Bool := st.calls == 0
def DSt.tick (st : DSt) : DSt := { st with calls := if 0 < st.calls then st.calls - 1 else st.calls }

def findF (l : List DFile) (s : List UInt8) : Option DFile := l.find? fun f => f.name == s
def insF (f : DFile) : List DFile → List DFile
  | [] => [f]
  | g :: r => if bytesBefore f.name g.name then f :: g :: r else g :: insF f r
def delF (l : List DFile) (s : List UInt8) : List DFile := l.filter fun f => !(f.name == s)
def chgF (l : List DFile) (s : List UInt8) (F : DFile → DFile) : List DFile := l.map fun f => if f.name == s then F f else f

def DSt.append (st : DSt) (s : List UInt8) (more : List UInt8) : Nat × DSt :=
  if st.halts then (32, st) else
  let t := st.tick
  if !nameOk s then (30, t) else
  if t.free < more.length ∨ (findF t.files s = none ∧ 4096 ≤ t.files.length) then (31, t) else
  match findF t.files s with
  | none => (0, { t with files := insF ⟨s, more, 0⟩ t.files })
  | some _ => (0, { t with files := chgF t.files s fun f => { f with data := f.data ++ more } })

def there (l : List DFile) (ss : List (List UInt8)) : Bool := ss.all fun s => (findF l s).isSome

def DSt.sync (st : DSt) (ss : List (List UInt8)) : Nat × DSt :=
  if st.halts then (32, st) else
  let t := st.tick
  if !there t.files ss then (30, t) else
  (0, { t with files := t.files.map fun f => if ss.contains f.name then { f with safe := f.data.length } else f })

def DSt.rename (st : DSt) (a b : List UInt8) : Nat × DSt :=
  if st.halts then (32, st) else
  let t := st.tick
  match findF t.files a with
  | none => (30, t)
  | some f => if !nameOk b then (30, t) else (0, { t with files := insF { f with name := b } (delF (delF t.files a) b) })

def nodupB : List (List UInt8) → Bool
  | [] => true
  | s :: r => !r.contains s && nodupB r

def DSt.remove (st : DSt) (ss : List (List UInt8)) : Nat × DSt :=
  if st.halts then (32, st) else
  let t := st.tick
  if !there t.files ss || !nodupB ss then (30, t) else
  (0, { t with files := t.files.filter fun f => !ss.contains f.name })

def DSt.cut (st : DSt) (s : List UInt8) (n : Int) : Nat × DSt :=
  if st.halts then (32, st) else
  let t := st.tick
  match findF t.files s with
  | none => (30, t)
  | some f => if n < 0 ∨ (f.data.length : Int) < n then (2, t) else
    (0, { t with files := chgF t.files s fun f => { f with data := f.data.take n.toNat, safe := min f.safe n.toNat } })

def DSt.stop (st : DSt) (n : Int) : DSt := { st with calls := max n (-1) }

/-- What stays of a file in a crash. -/
def stays (f : DFile) (keep : Option Int) : Nat :=
  match keep with
  | none => f.safe
  | some k => f.safe + min k.toNat (f.data.length - f.safe)
def crashF : List DFile → List Int → List DFile
  | [], _ => []
  | f :: r, ks => { f with data := f.data.take (stays f ks.head?), safe := stays f ks.head? } :: crashF r ks.tail
def goneF : List DFile → List Int → Nat
  | [], _ => 0
  | f :: r, ks => f.data.length - stays f ks.head? + goneF r ks.tail
def DSt.crash (st : DSt) (keep : List Int) : DSt := { st with calls := -1, files := crashF st.files keep }

structure DSt.wf (st : DSt) : Prop where
  room : st.room ≤ 9223372036854775807
  fits : total st.files ≤ st.room
  small : total st.files ≤ 1099511627776
  calls0 : -1 ≤ st.calls
  calls1 : st.calls ≤ 9223372036854775807
  sorted : st.files.Pairwise fun f g => bytesBefore f.name g.name = true
  safe : ∀ f ∈ st.files, f.safe ≤ f.data.length
  count : st.files.length ≤ 4096
  names : ∀ f ∈ st.files, f.name.length ≤ 32

theorem DSt.tick_files (st : DSt) : st.tick.files = st.files := rfl
theorem DSt.tick_room (st : DSt) : st.tick.room = st.room := rfl
theorem DSt.tick_halted {st : DSt} (h : st.halts = true) : st.tick = st := by
  obtain ⟨r, c, f⟩ := st
  simp only [DSt.halts, beq_iff_eq] at h
  subst h
  rfl
theorem DSt.wf.tick {st : DSt} (h : st.wf) : st.tick.wf := by
  refine ⟨h.room, h.fits, h.small, ?_, ?_, h.sorted, h.safe, h.count, h.names⟩
  · have := h.calls0; unfold DSt.tick; dsimp only; split <;> omega
  · have := h.calls1; unfold DSt.tick; dsimp only; split <;> omega

/-- How many of a file's bytes are safe. -/
def safeOf (l : List DFile) (s : List UInt8) : Nat := match findF l s with | some f => f.safe | none => 0

/-! ### the order of names -/
theorem bytesBefore_irrefl : ∀ a : List UInt8, bytesBefore a a = false
  | [] => rfl
  | x :: r => by simp [bytesBefore, bytesBefore_irrefl r]
theorem bytesBefore_trans : ∀ {a b c : List UInt8}, bytesBefore a b = true → bytesBefore b c = true → bytesBefore a c = true
  | [], [], _, h, _ => by simp [bytesBefore] at h
  | [], _ :: _, [], _, h => by simp [bytesBefore] at h
  | [], _ :: _, _ :: _, _, _ => rfl
  | _ :: _, [], _, h, _ => by simp [bytesBefore] at h
  | _ :: _, _ :: _, [], _, h => by simp [bytesBefore] at h
  | x :: r, y :: s, z :: t, h1, h2 => by
    simp only [bytesBefore, Bool.or_eq_true, Bool.and_eq_true, decide_eq_true_eq, beq_iff_eq] at h1 h2 ⊢
    rcases h1 with h1 | ⟨rfl, h1⟩
    · rcases h2 with h2 | ⟨rfl, _⟩
      · exact .inl (UInt8.lt_trans h1 h2)
      · exact .inl h1
    · rcases h2 with h2 | ⟨rfl, h2⟩
      · exact .inl h2
      · exact .inr ⟨rfl, bytesBefore_trans h1 h2⟩
theorem bytesBefore_total : ∀ (a b : List UInt8), a ≠ b → bytesBefore a b = true ∨ bytesBefore b a = true
  | [], [], h => absurd rfl h
  | [], _ :: _, _ => .inl rfl
  | _ :: _, [], _ => .inr rfl
  | x :: r, y :: s, h => by
    simp only [bytesBefore, Bool.or_eq_true, Bool.and_eq_true, decide_eq_true_eq, beq_iff_eq]
    by_cases e : x = y
    · subst e
      rcases bytesBefore_total r s (fun e => h (by rw [e])) with h | h
      · exact .inl (.inr ⟨rfl, h⟩)
      · exact .inr (.inr ⟨rfl, h⟩)
    · rcases UInt8.lt_or_lt_of_ne e with h | h
      · exact .inl (.inl h)
      · exact .inr (.inl h)
theorem before_ne {a b : List UInt8} (h : bytesBefore a b = true) : a ≠ b := fun e => by subst e; rw [bytesBefore_irrefl] at h; cases h

/-! ### one file turned -/
theorem chgF_names {l : List DFile} {s : List UInt8} {F : DFile → DFile} (hn : ∀ g, (F g).name = g.name) : (chgF l s F).map DFile.name = l.map DFile.name := by
  unfold chgF
  rw [List.map_map]
  apply List.map_congr_left
  intro g _
  simp only [Function.comp]
  split
  · exact hn g
  · rfl
theorem mem_chgF {l : List DFile} {s : List UInt8} {F : DFile → DFile} {g : DFile} (h : g ∈ chgF l s F) : (g ∈ l ∧ g.name ≠ s) ∨ ∃ f ∈ l, f.name = s ∧ g = F f := by
  obtain ⟨f, hf, rfl⟩ := List.mem_map.1 h
  by_cases e : f.name = s
  · exact .inr ⟨f, hf, e, by simp [e]⟩
  · exact .inl (by simp [e, hf])
theorem total_chg {l : List DFile} (hp : l.Pairwise fun f g => f.name ≠ g.name) {s : List UInt8} {F : DFile → DFile} {f : DFile} (hf : findF l s = some f) :
    total (chgF l s F) + f.data.length = total l + (F f).data.length := by
  unfold total chgF
  induction l with
  | nil => simp [findF] at hf
  | cons g r ih =>
    obtain ⟨h1, h2⟩ := List.pairwise_cons.1 hp
    unfold findF at hf
    simp only [List.find?_cons] at hf
    by_cases e : g.name = s
    · simp only [e, beq_self_eq_true, Option.some.injEq] at hf
      subst hf
      have e2 : r.map (fun f => if f.name == s then F f else f) = r := by
        conv => rhs; rw [← List.map_id r]
        apply List.map_congr_left
        intro x hx
        have : ¬ x.name = s := fun e' => h1 x hx (by rw [e, e'])
        simp [this]
      simp only [List.map_cons, e2, e, beq_self_eq_true, if_true, List.sum_cons]
      omega
    · have e' : (g.name == s) = false := by simpa using e
      rw [e'] at hf
      have := ih h2 hf
      simp only [List.map_cons, e', Bool.false_eq_true, if_false, List.sum_cons] at this ⊢
      omega
theorem DSt.wf.names_ne {st : DSt} (h : st.wf) : st.files.Pairwise fun f g => f.name ≠ g.name := h.sorted.imp fun h => before_ne h
theorem findF_mem {l : List DFile} {s : List UInt8} {f : DFile} (h : findF l s = some f) : f ∈ l ∧ f.name = s :=
  ⟨List.mem_of_find?_eq_some h, by have := List.find?_some h; simpa using this⟩
theorem findF_unique {l : List DFile} (hp : l.Pairwise fun f g => f.name ≠ g.name) {s : List UInt8} {f g : DFile} (hf : findF l s = some f) (hg : g ∈ l) (hn : g.name = s) : g = f := by
  induction l with
  | nil => cases hg
  | cons x r ih =>
    obtain ⟨h1, h2⟩ := List.pairwise_cons.1 hp
    unfold findF at hf
    simp only [List.find?_cons] at hf
    by_cases e : x.name = s
    · simp only [e, beq_self_eq_true, Option.some.injEq] at hf
      rcases List.mem_cons.1 hg with h | h
      · rw [h, hf]
      · exact absurd (e.trans hn.symm) (h1 g h)
    · have e' : (x.name == s) = false := by simpa using e
      rw [e'] at hf
      rcases List.mem_cons.1 hg with h | h
      · exact absurd (by rw [← h]; exact hn) e
      · exact ih h2 hf h
theorem DSt.wf.chg {st : DSt} (h : st.wf) {s : List UInt8} {F : DFile → DFile} {f : DFile} (hf : findF st.files s = some f) (hn : ∀ g, (F g).name = g.name) (hs : (F f).safe ≤ (F f).data.length)
    (ht : total st.files + (F f).data.length ≤ st.room + f.data.length) (ht2 : total st.files + (F f).data.length ≤ 1099511627776 + f.data.length) : DSt.wf { st with files := chgF st.files s F } := by
  have e := total_chg h.names_ne (F := F) hf
  refine ⟨h.room, (by omega : total (chgF st.files s F) ≤ st.room), (by omega : total (chgF st.files s F) ≤ 1099511627776), h.calls0, h.calls1, ?_, ?_, ?_, ?_⟩
  · have h1 := h.sorted
    have h2 : (st.files.map DFile.name).Pairwise (fun a b => bytesBefore a b = true) := by rw [List.pairwise_map]; exact h1
    rw [← chgF_names (s := s) hn, List.pairwise_map] at h2
    exact h2
  · intro g hg
    rcases mem_chgF hg with ⟨h1, _⟩ | ⟨x, h1, h2, rfl⟩
    · exact h.safe g h1
    · rw [findF_unique h.names_ne hf h1 h2]; exact hs
  · show (chgF st.files s F).length ≤ _
    have := h.count
    simpa [chgF] using this
  · intro g hg
    rcases mem_chgF hg with ⟨h1, _⟩ | ⟨x, h1, h2, rfl⟩
    · exact h.names g h1
    · rw [hn]; exact h.names x h1

/-! ### a file comes, a file goes -/
theorem mem_insF {f g : DFile} : ∀ {l : List DFile}, g ∈ insF f l ↔ g = f ∨ g ∈ l
  | [] => by simp [insF]
  | x :: r => by
    unfold insF
    split
    · simp
    · simp only [List.mem_cons, mem_insF (l := r)]
      constructor
      · rintro (h | h | h)
        · exact .inr (.inl h)
        · exact .inl h
        · exact .inr (.inr h)
      · rintro (h | h | h)
        · exact .inr (.inl h)
        · exact .inl h
        · exact .inr (.inr h)
theorem total_ins (f : DFile) : ∀ l : List DFile, total (insF f l) = total l + f.data.length
  | [] => by simp [total, insF]
  | x :: r => by
    have := total_ins f r
    unfold total at *
    unfold insF
    split
    · simp only [List.map_cons, List.sum_cons]; omega
    · simp only [List.map_cons, List.sum_cons]; omega
theorem length_ins (f : DFile) : ∀ l : List DFile, (insF f l).length = l.length + 1
  | [] => rfl
  | x :: r => by
    unfold insF
    split
    · simp
    · simp [length_ins f r]
theorem sorted_ins {f : DFile} : ∀ {l : List DFile}, l.Pairwise (fun f g => bytesBefore f.name g.name = true) → (∀ g ∈ l, g.name ≠ f.name) → (insF f l).Pairwise fun f g => bytesBefore f.name g.name = true
  | [], _, _ => by simp [insF]
  | x :: r, h, hn => by
    obtain ⟨h1, h2⟩ := List.pairwise_cons.1 h
    unfold insF
    by_cases hb : bytesBefore f.name x.name = true
    · rw [if_pos hb]
      refine List.pairwise_cons.2 ⟨fun g hg => ?_, h⟩
      rcases List.mem_cons.1 hg with rfl | hg
      · exact hb
      · exact bytesBefore_trans hb (h1 g hg)
    · rw [if_neg hb]
      have hx : bytesBefore x.name f.name = true := by
        rcases bytesBefore_total x.name f.name (hn x (by simp)) with e | e
        · exact e
        · exact absurd e hb
      refine List.pairwise_cons.2 ⟨fun g hg => ?_, sorted_ins h2 (fun g hg => hn g (by simp [hg]))⟩
      rcases mem_insF.1 hg with rfl | hg
      · exact hx
      · exact h1 g hg
theorem total_del_le (l : List DFile) (s : List UInt8) : total (delF l s) ≤ total l := by
  unfold total delF
  induction l with
  | nil => simp
  | cons x r ih =>
    simp only [List.filter_cons]
    split
    · simp only [List.map_cons, List.sum_cons]; omega
    · simp only [List.map_cons, List.sum_cons]; omega
theorem delF_none {l : List DFile} {s : List UInt8} (h : findF l s = none) : delF l s = l := by
  unfold delF
  rw [List.filter_eq_self]
  intro f hf
  have := List.find?_eq_none.1 h f hf
  simpa using this
theorem total_del {l : List DFile} (hp : l.Pairwise fun f g => f.name ≠ g.name) {s : List UInt8} {f : DFile} (hf : findF l s = some f) : total (delF l s) + f.data.length = total l := by
  unfold total delF
  induction l with
  | nil => simp [findF] at hf
  | cons g r ih =>
    obtain ⟨h1, h2⟩ := List.pairwise_cons.1 hp
    unfold findF at hf
    simp only [List.find?_cons] at hf
    by_cases e : g.name = s
    · simp only [e, beq_self_eq_true, Option.some.injEq] at hf
      subst hf
      have e2 : r.filter (fun f => !(f.name == s)) = r := by
        rw [List.filter_eq_self]
        intro x hx
        have : ¬ x.name = s := fun e' => h1 x hx (by rw [e, e'])
        simp [this]
      simp only [List.filter_cons, e, beq_self_eq_true, Bool.not_true, Bool.false_eq_true, if_false, e2, List.map_cons, List.sum_cons]
      omega
    · have e' : (g.name == s) = false := by simpa using e
      rw [e'] at hf
      have := ih h2 hf
      simp only [List.filter_cons, e', Bool.not_false, if_true, List.map_cons, List.sum_cons] at this ⊢
      omega
theorem DSt.wf.del {st : DSt} (h : st.wf) (s : List UInt8) : DSt.wf { st with files := delF st.files s } := by
  have e := total_del_le st.files s
  have h1 := h.fits
  have h2 := h.small
  refine ⟨h.room, (by omega : total (delF st.files s) ≤ st.room), (by omega : total (delF st.files s) ≤ 1099511627776), h.calls0, h.calls1, h.sorted.filter _, fun f hf => h.safe f (List.mem_filter.1 hf).1, ?_, fun f hf => h.names f (List.mem_filter.1 hf).1⟩
  show (delF st.files s).length ≤ 4096
  have := List.length_filter_le (fun f : DFile => !(f.name == s)) st.files
  have := h.count
  unfold delF
  omega
/-- A file is laid at its name, whatever lay there. -/
theorem DSt.wf.put {st : DSt} (h : st.wf) {f : DFile} (hs : f.safe ≤ f.data.length) (hn : f.name.length ≤ 32) (ht : total (delF st.files f.name) + f.data.length ≤ st.room) (ht2 : total (delF st.files f.name) + f.data.length ≤ 1099511627776)
    (hc : (delF st.files f.name).length < 4096) : DSt.wf { st with files := insF f (delF st.files f.name) } := by
  have hd := h.del f.name
  refine ⟨h.room, ?_, ?_, h.calls0, h.calls1, sorted_ins hd.sorted (fun g hg => ?_), fun g hg => ?_, ?_, fun g hg => ?_⟩
  · show total _ ≤ _; rw [total_ins]; exact ht
  · show total _ ≤ _; rw [total_ins]; exact ht2
  · have := (List.mem_filter.1 hg).2; simpa using this
  · rcases mem_insF.1 hg with rfl | hg
    · exact hs
    · exact hd.safe g hg
  · show (insF _ _).length ≤ _; rw [length_ins]; omega
  · rcases mem_insF.1 hg with rfl | hg
    · exact hn
    · exact hd.names g hg

theorem DSt.append_full {st : DSt} {s more : List UInt8} (hh : st.halts = false) (hn : nameOk s = true) (hf : st.tick.free < more.length) : st.append s more = (31, st.tick) := by
  unfold DSt.append
  rw [if_neg (by simp [hh])]
  simp only [hn, Bool.not_true, Bool.false_eq_true, if_false]
  rw [if_pos (.inl hf)]
theorem DSt.append_many {st : DSt} {s more : List UInt8} (hh : st.halts = false) (hn : nameOk s = true) (h1 : findF st.files s = none) (h2 : 4096 ≤ st.files.length) : st.append s more = (31, st.tick) := by
  unfold DSt.append
  rw [if_neg (by simp [hh])]
  simp only [hn, Bool.not_true, Bool.false_eq_true, if_false]
  rw [if_pos (.inr ⟨h1, h2⟩)]
theorem DSt.append_new {st : DSt} {s more : List UInt8} (hh : st.halts = false) (hn : nameOk s = true) (hf : more.length ≤ st.tick.free) (h1 : findF st.files s = none) (h2 : st.files.length < 4096) :
    st.append s more = (0, { st.tick with files := insF ⟨s, more, 0⟩ (delF st.tick.files s) }) := by
  have e : findF st.tick.files s = none := h1
  unfold DSt.append
  rw [if_neg (by simp [hh])]
  simp only [hn, Bool.not_true, Bool.false_eq_true, if_false]
  rw [if_neg (by rintro (h | ⟨_, h⟩); omega; rw [DSt.tick_files] at h; omega), e, delF_none e]
theorem DSt.append_old {st : DSt} {s more : List UInt8} {f : DFile} (hh : st.halts = false) (hn : nameOk s = true) (hf : more.length ≤ st.tick.free) (h1 : findF st.files s = some f) :
    st.append s more = (0, { st.tick with files := chgF st.tick.files s fun f => { f with data := f.data ++ more } }) := by
  have e : findF st.tick.files s = some f := h1
  unfold DSt.append
  rw [if_neg (by simp [hh])]
  simp only [hn, Bool.not_true, Bool.false_eq_true, if_false]
  rw [if_neg (by rintro (h | ⟨h, _⟩); omega; rw [e] at h; cases h), e]

theorem length_del_lt {l : List DFile} {s : List UInt8} {f : DFile} (hf : findF l s = some f) : (delF l s).length < l.length := by
  obtain ⟨hm, hn⟩ := findF_mem hf
  unfold delF
  refine List.length_filter_lt_length_iff_exists.2 ⟨f, hm, by simp [hn]⟩
theorem DSt.rename_none {st : DSt} {a b : List UInt8} (hh : st.halts = false) (h : findF st.files a = none ∨ nameOk b = false) : st.rename a b = (30, st.tick) := by
  unfold DSt.rename
  rw [if_neg (by simp [hh])]
  rcases h with h | h
  · have e : findF st.tick.files a = none := h
    simp only [e]
  · simp only [h]
    cases findF st.tick.files a <;> rfl
theorem DSt.rename_some {st : DSt} {a b : List UInt8} {f : DFile} (hh : st.halts = false) (h : findF st.files a = some f) (hn : nameOk b = true) :
    st.rename a b = (0, { st.tick with files := insF { f with name := b } (delF (delF st.tick.files a) b) }) := by
  have e : findF st.tick.files a = some f := h
  unfold DSt.rename
  rw [if_neg (by simp [hh])]
  simp only [e, hn]
  rfl
theorem nameOk_len {s : List UInt8} (h : nameOk s = true) : s.length ≤ 32 := by
  unfold nameOk at h
  simp only [Bool.and_eq_true, decide_eq_true_eq] at h
  exact h.1.2
theorem DSt.wf.rename {st : DSt} (h : st.wf) {a b : List UInt8} {f : DFile} (hf : findF st.files a = some f) (hn : nameOk b = true) : DSt.wf { st with files := insF { f with name := b } (delF (delF st.files a) b) } := by
  have hd := h.del a
  have e1 := total_del h.names_ne hf
  have e2 := total_del_le (delF st.files a) b
  have e3 := h.fits
  have e4 := h.small
  refine hd.put (f := { f with name := b }) (h.safe f (findF_mem hf).1) (nameOk_len hn) ?_ ?_ ?_
  · show total (delF (delF st.files a) b) + f.data.length ≤ st.room; omega
  · show total (delF (delF st.files a) b) + f.data.length ≤ _; omega
  · show (delF (delF st.files a) b).length < 4096
    have := length_del_lt hf
    have := h.count
    have := List.length_filter_le (fun f : DFile => !(f.name == b)) (delF st.files a)
    unfold delF at *
    omega

/-! ### Sync -/
def syncF (l : List DFile) (ss : List (List UInt8)) : List DFile := l.map fun f => if ss.contains f.name then { f with safe := f.data.length } else f
theorem syncF_nil (l : List DFile) : syncF l [] = l := by
  unfold syncF
  conv => rhs; rw [← List.map_id l]
  apply List.map_congr_left
  intro f _
  rfl
theorem syncF_snoc (l : List DFile) (ss : List (List UInt8)) (s : List UInt8) : syncF l (ss ++ [s]) = chgF (syncF l ss) s fun f => { f with safe := f.data.length } := by
  unfold syncF chgF
  rw [List.map_map]
  apply List.map_congr_left
  intro f _
  simp only [Function.comp, List.contains_eq_mem, List.mem_append, List.mem_singleton, decide_eq_true_eq]
  by_cases h2 : f.name = s
  · subst h2
    by_cases h1 : f.name ∈ ss <;> simp [h1]
  · by_cases h1 : f.name ∈ ss <;> simp [h1, h2]
theorem syncF_total (l : List DFile) (ss : List (List UInt8)) : total (syncF l ss) = total l := by
  unfold total syncF
  rw [List.map_map]
  congr 1
  apply List.map_congr_left
  intro f _
  simp only [Function.comp]
  split <;> rfl
theorem syncF_names (l : List DFile) (ss : List (List UInt8)) : (syncF l ss).map DFile.name = l.map DFile.name := by
  unfold syncF
  rw [List.map_map]
  apply List.map_congr_left
  intro f _
  simp only [Function.comp]
  split <;> rfl
theorem DSt.wf.sync {st : DSt} (h : st.wf) (ss : List (List UInt8)) : DSt.wf { st with files := syncF st.files ss } := by
  have e := syncF_total st.files ss
  refine ⟨h.room, (by rw [e]; exact h.fits : total (syncF st.files ss) ≤ st.room), (by rw [e]; exact h.small : total (syncF st.files ss) ≤ _), h.calls0, h.calls1, ?_, ?_, ?_, ?_⟩
  · have h2 : (st.files.map DFile.name).Pairwise (fun a b => bytesBefore a b = true) := by rw [List.pairwise_map]; exact h.sorted
    rw [← syncF_names st.files ss, List.pairwise_map] at h2
    exact h2
  · intro f hf
    obtain ⟨g, hg, rfl⟩ := List.mem_map.1 hf
    split
    · exact Nat.le_refl _
    · exact h.safe g hg
  · show (syncF st.files ss).length ≤ 4096
    unfold syncF; rw [List.length_map]; exact h.count
  · intro f hf
    obtain ⟨g, hg, rfl⟩ := List.mem_map.1 hf
    have := h.names g hg
    split <;> exact this
theorem findF_syncF (l : List DFile) (ss : List (List UInt8)) (s : List UInt8) : findF (syncF l ss) s = (findF l s).map fun f => if ss.contains f.name then { f with safe := f.data.length } else f := by
  unfold findF syncF
  rw [List.find?_map]
  congr 1
  congr 1
  funext f
  simp only [Function.comp]
  split <;> rfl
theorem there_get {l : List DFile} {ss : List (List UInt8)} (h : there l ss = true) {k : Nat} (hk : k < ss.length) : ∃ f, findF l ss[k] = some f := by
  unfold there at h
  have := List.all_eq_true.1 h ss[k] (List.getElem_mem hk)
  exact Option.isSome_iff_exists.1 this
theorem DSt.sync_none {st : DSt} {ss : List (List UInt8)} (hh : st.halts = false) (h : there st.files ss = false) : st.sync ss = (30, st.tick) := by
  have e : there st.tick.files ss = false := h
  unfold DSt.sync
  rw [if_neg (by simp [hh])]
  simp only [e]
  rfl
theorem DSt.sync_some {st : DSt} {ss : List (List UInt8)} (hh : st.halts = false) (h : there st.files ss = true) : st.sync ss = (0, { st.tick with files := syncF st.tick.files ss }) := by
  have e : there st.tick.files ss = true := h
  unfold DSt.sync
  rw [if_neg (by simp [hh])]
  simp only [e]
  rfl

/-! ### Remove -/
def removeF (l : List DFile) (ss : List (List UInt8)) : List DFile := l.filter fun f => !ss.contains f.name
theorem removeF_nil (l : List DFile) : removeF l [] = l := by
  unfold removeF
  rw [List.filter_eq_self]
  intro f _
  rfl
theorem removeF_snoc (l : List DFile) (ss : List (List UInt8)) (s : List UInt8) : removeF l (ss ++ [s]) = delF (removeF l ss) s := by
  unfold removeF delF
  rw [List.filter_filter]
  apply List.filter_congr
  intro f _
  simp only [List.contains_eq_mem, List.mem_append, List.mem_singleton, Bool.decide_or, Bool.not_or]
  rw [Bool.and_comm]
  by_cases h : f.name = s <;> simp [h]
theorem DSt.wf.removed {st : DSt} (h : st.wf) (ss : List (List UInt8)) : DSt.wf { st with files := removeF st.files ss } := by
  have e : total (removeF st.files ss) ≤ total st.files := by
    unfold total removeF
    generalize st.files = l
    induction l with
    | nil => simp
    | cons x r ih =>
      simp only [List.filter_cons]
      split
      · simp only [List.map_cons, List.sum_cons]; omega
      · simp only [List.map_cons, List.sum_cons]; omega
  have h1 := h.fits
  have h2 := h.small
  refine ⟨h.room, (by omega : total (removeF st.files ss) ≤ st.room), (by omega : total (removeF st.files ss) ≤ 1099511627776), h.calls0, h.calls1, h.sorted.filter _, fun f hf => h.safe f (List.mem_filter.1 hf).1, ?_, fun f hf => h.names f (List.mem_filter.1 hf).1⟩
  show (removeF st.files ss).length ≤ 4096
  have := List.length_filter_le (fun f : DFile => !ss.contains f.name) st.files
  have := h.count
  unfold removeF
  omega
theorem nodupB_iff : ∀ ss : List (List UInt8), nodupB ss = true ↔ ss.Nodup
  | [] => by simp [nodupB]
  | s :: r => by
    unfold nodupB
    rw [List.nodup_cons, Bool.and_eq_true, nodupB_iff r]
    simp
theorem DSt.remove_none {st : DSt} {ss : List (List UInt8)} (hh : st.halts = false) (h : there st.files ss = false ∨ nodupB ss = false) : st.remove ss = (30, st.tick) := by
  have e : (!there st.tick.files ss || !nodupB ss) = true := by
    rw [DSt.tick_files]
    rcases h with h | h <;> simp [h]
  unfold DSt.remove
  rw [if_neg (by simp [hh])]
  simp only [e]
  rfl
theorem DSt.remove_some {st : DSt} {ss : List (List UInt8)} (hh : st.halts = false) (h : there st.files ss = true) (h2 : nodupB ss = true) : st.remove ss = (0, { st.tick with files := removeF st.tick.files ss }) := by
  have e : (!there st.tick.files ss || !nodupB ss) = false := by
    rw [DSt.tick_files, h, h2]; rfl
  unfold DSt.remove
  rw [if_neg (by simp [hh])]
  simp only [e]
  rfl

/-! ### Crash -/
def cr (f : DFile) (k : Option Int) : DFile := { f with data := f.data.take (stays f k), safe := stays f k }
theorem stays_le {f : DFile} (h : f.safe ≤ f.data.length) (k : Option Int) : f.safe ≤ stays f k ∧ stays f k ≤ f.data.length := by
  unfold stays
  split <;> omega
theorem crashF_get : ∀ (l : List DFile) (ks : List Int) (i : Nat), (crashF l ks)[i]? = (l[i]?).map fun f => cr f ks[i]?
  | [], _, _ => by simp [crashF]
  | f :: r, ks, 0 => by cases ks <;> simp [crashF, cr]
  | f :: r, ks, i + 1 => by
    unfold crashF
    rw [List.getElem?_cons_succ, List.getElem?_cons_succ, crashF_get r ks.tail i]
    cases ks <;> simp
theorem crashF_length : ∀ (l : List DFile) (ks : List Int), (crashF l ks).length = l.length
  | [], _ => rfl
  | f :: r, ks => by simp [crashF, crashF_length r ks.tail]
theorem goneF_take : ∀ (l : List DFile) (ks : List Int) (k : Nat) (hk : k < l.length), goneF (l.take (k + 1)) ks = goneF (l.take k) ks + (l[k].data.length - stays l[k] ks[k]?)
  | [], _, _, hk => by simp at hk
  | f :: r, ks, 0, _ => by cases ks <;> simp [goneF]
  | f :: r, ks, k + 1, hk => by
    have := goneF_take r ks.tail k (by simpa using hk)
    simp only [List.take_succ_cons, goneF, List.getElem_cons_succ] at this ⊢
    have e : ks.tail[k]? = ks[k + 1]? := by cases ks <;> simp
    rw [e] at this
    omega
theorem goneF_le : ∀ (l : List DFile) (ks : List Int), goneF l ks ≤ total l
  | [], _ => by simp [goneF]
  | f :: r, ks => by
    have := goneF_le r ks.tail
    unfold total at *
    simp only [goneF, List.map_cons, List.sum_cons]
    omega
theorem total_take_le (l : List DFile) (k : Nat) : total (l.take k) ≤ total l := by
  induction l generalizing k with
  | nil => simp
  | cons f r ih =>
    cases k with
    | zero => simp [total]
    | succ k =>
      have := ih k
      unfold total at *
      simp only [List.take_succ_cons, List.map_cons, List.sum_cons]
      omega
/-- The first k files have been through the crash. -/
def midF (l : List DFile) (ks : List Int) (k : Nat) : List DFile := (crashF l ks).take k ++ l.drop k
theorem midF_get (l : List DFile) (ks : List Int) (k j : Nat) (hk : k ≤ l.length) : (midF l ks k)[j]? = if j < k then (l[j]?).map (fun f => cr f ks[j]?) else l[j]? := by
  unfold midF
  by_cases h : j < k
  · rw [if_pos h, List.getElem?_append_left (by rw [List.length_take, crashF_length]; omega), List.getElem?_take, if_pos h, crashF_get]
  · rw [if_neg h, List.getElem?_append_right (by rw [List.length_take, crashF_length]; omega), List.length_take, crashF_length, Nat.min_eq_left hk, List.getElem?_drop]
    congr 1
    omega
theorem midF_zero (l : List DFile) (ks : List Int) : midF l ks 0 = l := by simp [midF]
theorem midF_all (l : List DFile) (ks : List Int) : midF l ks l.length = crashF l ks := by
  unfold midF
  rw [List.drop_length, List.append_nil, ← crashF_length l ks, List.take_length]
theorem midF_names (l : List DFile) (ks : List Int) (k : Nat) (hk : k ≤ l.length) : (midF l ks k).map DFile.name = l.map DFile.name := by
  apply List.ext_getElem?
  intro j
  rw [List.getElem?_map, List.getElem?_map, midF_get l ks k j hk]
  split
  · cases l[j]? <;> rfl
  · rfl
theorem midF_step {l : List DFile} (hp : l.Pairwise fun f g => f.name ≠ g.name) (ks : List Int) (k : Nat) (hk : k < l.length) : midF l ks (k + 1) = chgF (midF l ks k) l[k].name fun f => cr f ks[k]? := by
  apply List.ext_getElem?
  intro j
  unfold chgF
  rw [List.getElem?_map, midF_get l ks (k + 1) j (by omega), midF_get l ks k j (by omega)]
  have hne : ∀ j (hj : j < l.length), j ≠ k → l[j].name ≠ l[k].name := fun j hj hn => by
    rw [List.pairwise_iff_getElem] at hp
    rcases Nat.lt_or_gt_of_ne hn with h | h
    · exact hp j k hj hk h
    · exact (hp k j hk hj h).symm
  by_cases h1 : j < k
  · have hj : j < l.length := by omega
    have := hne j hj (by omega)
    rw [if_pos (by omega), if_pos h1, List.getElem?_eq_getElem hj]
    simp [cr, this]
  · rw [if_neg h1]
    by_cases h2 : j = k
    · subst h2
      rw [if_pos (by omega), List.getElem?_eq_getElem hk]
      simp
    · rw [if_neg (by omega)]
      by_cases hj : j < l.length
      · have := hne j hj h2
        rw [List.getElem?_eq_getElem hj]
        simp [this]
      · rw [List.getElem?_eq_none (by omega)]; rfl
theorem total_mid_le (l : List DFile) (ks : List Int) (k : Nat) : total (midF l ks k) ≤ total l := by
  have h1 : ∀ (l : List DFile) (ks : List Int), total (crashF l ks) ≤ total l := fun l => by
    induction l with
    | nil => intro ks; exact Nat.le_refl _
    | cons f r ih =>
      intro ks
      have := ih ks.tail
      unfold total at *
      simp only [crashF, List.map_cons, List.sum_cons, List.length_take]
      omega
  have h2 : ∀ (l : List DFile) (ks : List Int) (k : Nat), total (midF l ks k) ≤ total l := fun l => by
    induction l with
    | nil => intro ks k; simp [midF, crashF]
    | cons f r ih =>
      intro ks k
      cases k with
      | zero => rw [midF_zero]; exact Nat.le_refl _
      | succ k =>
        have := ih ks.tail k
        unfold total midF at *
        simp only [crashF, List.take_succ_cons, List.drop_succ_cons, List.cons_append, List.map_cons, List.sum_cons, List.length_take]
        omega
  exact h2 l ks k
theorem DSt.wf.mid {st : DSt} (h : st.wf) (ks : List Int) (k : Nat) (hk : k ≤ st.files.length) : DSt.wf { st with files := midF st.files ks k } := by
  have e := total_mid_le st.files ks k
  have h1 := h.fits
  have h2 := h.small
  have hmem : ∀ f ∈ midF st.files ks k, f ∈ st.files ∨ ∃ g ∈ st.files, ∃ j, f = cr g j := fun f hf => by
    obtain ⟨j, hj⟩ := List.mem_iff_getElem?.1 hf
    rw [midF_get _ _ _ _ hk] at hj
    split at hj
    · obtain ⟨g, hg, rfl⟩ := Option.map_eq_some_iff.1 hj
      exact .inr ⟨g, List.mem_of_getElem? hg, _, rfl⟩
    · exact .inl (List.mem_of_getElem? hj)
  refine ⟨h.room, (by omega : total (midF st.files ks k) ≤ st.room), (by omega : total (midF st.files ks k) ≤ 1099511627776), h.calls0, h.calls1, ?_, ?_, ?_, ?_⟩
  · have h2 : (st.files.map DFile.name).Pairwise (fun a b => bytesBefore a b = true) := by rw [List.pairwise_map]; exact h.sorted
    rw [← midF_names st.files ks k hk, List.pairwise_map] at h2
    exact h2
  · intro f hf
    rcases hmem f hf with h3 | ⟨g, hg, j, rfl⟩
    · exact h.safe f h3
    · have := stays_le (h.safe g hg) j
      show stays g j ≤ (g.data.take (stays g j)).length
      rw [List.length_take]; omega
  · show (midF st.files ks k).length ≤ 4096
    have e := congrArg List.length (midF_names st.files ks k hk)
    simp only [List.length_map] at e
    rw [e]; exact h.count
  · intro f hf
    rcases hmem f hf with h3 | ⟨g, hg, j, rfl⟩
    · exact h.names f h3
    · exact h.names g hg
theorem findF_mid {st : DSt} (h : st.wf) (ks : List Int) (k : Nat) (hk : k < st.files.length) : findF (midF st.files ks k) st.files[k].name = some st.files[k] := by
  have hw := h.mid ks k (by omega)
  have hm : st.files[k] ∈ midF st.files ks k := List.mem_of_getElem? (i := k) (by rw [midF_get _ _ _ _ (by omega), if_neg (by omega), List.getElem?_eq_getElem hk])
  cases hf : findF (midF st.files ks k) st.files[k].name with
  | none =>
    have := List.find?_eq_none.1 hf _ hm
    simp at this
  | some f => rw [findF_unique hw.names_ne hf hm rfl]

end Go.Proofs.YtglkonhhknaomaaDoor
