/- An act of the law, as plain data: what it does to a disk. No program in sight. -/
import Derived.Test.YtglkonhhknaomaaDoorEchPure
namespace Go.Proofs.YtglkonhhknaomaaDoor
open Go

structure ActM where
  kind : Int
  names : List (List UInt8)
  bs : List (List UInt8)
  n : Int
  keep : List Int

def ActM.name (a : ActM) (i : Nat) : List UInt8 := a.names.getD i []

/-- How many bytes and names an act has. -/
def ActM.size (a : ActM) : Nat := a.keep.length + 1 + (a.names.map fun s => s.length + 1).sum + (a.bs.map fun s => s.length + 1).sum

/-- An act, on a disk. -/
def ActM.run (a : ActM) (st : DSt) : Int × DSt :=
  if a.kind = 0 then (((st.append (a.name 0) a.bs.flatten).1 : Int), (st.append (a.name 0) a.bs.flatten).2)
  else if a.kind = 1 then (((st.sync a.names).1 : Int), (st.sync a.names).2)
  else if a.kind = 2 then (((st.rename (a.name 0) (a.name 1)).1 : Int), (st.rename (a.name 0) (a.name 1)).2)
  else if a.kind = 3 then (((st.remove a.names).1 : Int), (st.remove a.names).2)
  else if a.kind = 4 then (((st.cut (a.name 0) a.n).1 : Int), (st.cut (a.name 0) a.n).2)
  else if a.kind = 5 then ((goneF st.files a.keep : Int), st.crash a.keep)
  else if a.kind = 6 then (0, st.stop a.n)
  else (0, st)

/-! ### an act on a disk that is about to stop -/
theorem halts_pos {st : DSt} (h : 0 < st.calls) : st.halts = false := by
  unfold DSt.halts; simp; omega
theorem halts_neg {st : DSt} (h : st.calls = -1) : st.halts = false := by
  unfold DSt.halts; simp [h]
theorem tick_pos {st : DSt} (h : 0 < st.calls) : st.tick = { st with calls := st.calls - 1 } := by
  unfold DSt.tick; rw [if_pos h]
theorem tick_neg {st : DSt} (h : st.calls = -1) : st.tick = st := by
  unfold DSt.tick
  rw [if_neg (by omega)]
def DSt.at (st : DSt) (c : Int) : DSt := { st with calls := c }
theorem at_files (st : DSt) (c : Int) : (st.at c).files = st.files := rfl
theorem at_room (st : DSt) (c : Int) : (st.at c).room = st.room := rfl
theorem at_calls (st : DSt) (c : Int) : (st.at c).calls = c := rfl
theorem at_at (st : DSt) (c c' : Int) : (st.at c).at c' = st.at c' := rfl
theorem at_self {st : DSt} {c : Int} (h : st.calls = c) : st.at c = st := by subst h; rfl
theorem at_free (st : DSt) (c : Int) : (st.at c).free = st.free := rfl

theorem append_go (st : DSt) (s m : List UInt8) (h : 0 < st.calls) : st.append s m = (((st.at (-1)).append s m).1, ((st.at (-1)).append s m).2.at (st.calls - 1)) ∧ ((st.at (-1)).append s m).2.calls = -1 := by
  obtain ⟨r, c, l⟩ := st
  replace h : 0 < c := h
  have e1 : (c == 0) = false := by simp; omega
  have e2 : ((-1 : Int) == 0) = false := rfl
  have e3 : ¬ (0 < (-1 : Int)) := by decide
  simp only [DSt.append, DSt.halts, DSt.tick, DSt.at, DSt.free, e1, e2, h, e3, if_true, if_false, Bool.false_eq_true]
  cases nameOk s
  · exact ⟨rfl, rfl⟩
  · simp only [Bool.not_true, Bool.false_eq_true, if_false]
    by_cases hc : r - total l < m.length ∨ findF l s = none ∧ 4096 ≤ l.length
    · simp only [if_pos hc, and_self]
    · simp only [if_neg hc]
      cases findF l s <;> exact ⟨rfl, rfl⟩
theorem sync_go (st : DSt) (ss : List (List UInt8)) (h : 0 < st.calls) : st.sync ss = (((st.at (-1)).sync ss).1, ((st.at (-1)).sync ss).2.at (st.calls - 1)) ∧ ((st.at (-1)).sync ss).2.calls = -1 := by
  obtain ⟨r, c, l⟩ := st
  replace h : 0 < c := h
  have e1 : (c == 0) = false := by simp; omega
  have e2 : ((-1 : Int) == 0) = false := rfl
  have e3 : ¬ (0 < (-1 : Int)) := by decide
  simp only [DSt.sync, DSt.halts, DSt.tick, DSt.at, e1, e2, h, e3, if_true, if_false, Bool.false_eq_true]
  cases there l ss <;> exact ⟨rfl, rfl⟩
theorem rename_go (st : DSt) (a b : List UInt8) (h : 0 < st.calls) : st.rename a b = (((st.at (-1)).rename a b).1, ((st.at (-1)).rename a b).2.at (st.calls - 1)) ∧ ((st.at (-1)).rename a b).2.calls = -1 := by
  obtain ⟨r, c, l⟩ := st
  replace h : 0 < c := h
  have e1 : (c == 0) = false := by simp; omega
  have e2 : ((-1 : Int) == 0) = false := rfl
  have e3 : ¬ (0 < (-1 : Int)) := by decide
  simp only [DSt.rename, DSt.halts, DSt.tick, DSt.at, e1, e2, h, e3, if_true, if_false, Bool.false_eq_true]
  cases findF l a
  · exact ⟨rfl, rfl⟩
  · cases nameOk b <;> exact ⟨rfl, rfl⟩
theorem remove_go (st : DSt) (ss : List (List UInt8)) (h : 0 < st.calls) : st.remove ss = (((st.at (-1)).remove ss).1, ((st.at (-1)).remove ss).2.at (st.calls - 1)) ∧ ((st.at (-1)).remove ss).2.calls = -1 := by
  obtain ⟨r, c, l⟩ := st
  replace h : 0 < c := h
  have e1 : (c == 0) = false := by simp; omega
  have e2 : ((-1 : Int) == 0) = false := rfl
  have e3 : ¬ (0 < (-1 : Int)) := by decide
  simp only [DSt.remove, DSt.halts, DSt.tick, DSt.at, e1, e2, h, e3, if_true, if_false, Bool.false_eq_true]
  generalize (!there l ss || !nodupB ss) = b
  cases b <;> exact ⟨rfl, rfl⟩
theorem cut_go (st : DSt) (s : List UInt8) (n : Int) (h : 0 < st.calls) : st.cut s n = (((st.at (-1)).cut s n).1, ((st.at (-1)).cut s n).2.at (st.calls - 1)) ∧ ((st.at (-1)).cut s n).2.calls = -1 := by
  obtain ⟨r, c, l⟩ := st
  replace h : 0 < c := h
  have e1 : (c == 0) = false := by simp; omega
  have e2 : ((-1 : Int) == 0) = false := rfl
  have e3 : ¬ (0 < (-1 : Int)) := by decide
  simp only [DSt.cut, DSt.halts, DSt.tick, DSt.at, e1, e2, h, e3, if_true, if_false, Bool.false_eq_true]
  cases hf : findF l s with
  | none => exact ⟨rfl, rfl⟩
  | some f =>
    dsimp only
    by_cases hc : n < 0 ∨ (f.data.length : Int) < n
    · simp only [if_pos hc, and_self]
    · simp only [if_neg hc, and_self]

theorem run_go {a : ActM} (h0 : 0 ≤ a.kind) (h4 : a.kind ≤ 4) {st : DSt} (h : 0 < st.calls) : (a.run st).2 = (a.run (st.at (-1))).2.at (st.calls - 1) ∧ (a.run (st.at (-1))).2.calls = -1 := by
  unfold ActM.run
  have hk : a.kind = 0 ∨ a.kind = 1 ∨ a.kind = 2 ∨ a.kind = 3 ∨ a.kind = 4 := by omega
  rcases hk with e | e | e | e | e
  · simp only [e, if_true]
    obtain ⟨e1, e2⟩ := append_go st (a.name 0) a.bs.flatten h
    rw [e1]; exact ⟨rfl, e2⟩
  · simp only [e, if_true, Int.reduceEq, if_false]
    obtain ⟨e1, e2⟩ := sync_go st a.names h
    rw [e1]; exact ⟨rfl, e2⟩
  · simp only [e, if_true, Int.reduceEq, if_false]
    obtain ⟨e1, e2⟩ := rename_go st (a.name 0) (a.name 1) h
    rw [e1]; exact ⟨rfl, e2⟩
  · simp only [e, if_true, Int.reduceEq, if_false]
    obtain ⟨e1, e2⟩ := remove_go st a.names h
    rw [e1]; exact ⟨rfl, e2⟩
  · simp only [e, if_true, Int.reduceEq, if_false]
    obtain ⟨e1, e2⟩ := cut_go st (a.name 0) a.n h
    rw [e1]; exact ⟨rfl, e2⟩
theorem run_halt {a : ActM} (h0 : 0 ≤ a.kind) (h4 : a.kind ≤ 4) {st : DSt} (h : st.calls = 0) : a.run st = (32, st) := by
  have hh : st.halts = true := by unfold DSt.halts; simp [h]
  unfold ActM.run DSt.append DSt.sync DSt.rename DSt.remove DSt.cut
  have hk : a.kind = 0 ∨ a.kind = 1 ∨ a.kind = 2 ∨ a.kind = 3 ∨ a.kind = 4 := by omega
  rcases hk with e | e | e | e | e <;> simp [e, hh]

/-! ### how many bytes there are behind an act -/
theorem total_filter (l : List DFile) (p : DFile → Bool) : total (l.filter p) ≤ total l := by
  unfold total
  induction l with
  | nil => simp
  | cons x r ih =>
    simp only [List.filter_cons]
    split <;> simp only [List.map_cons, List.sum_cons] <;> omega
theorem total_map_le {l : List DFile} {F : DFile → DFile} (h : ∀ f ∈ l, (F f).data.length ≤ f.data.length) : total (l.map F) ≤ total l := by
  unfold total
  induction l with
  | nil => simp
  | cons x r ih =>
    have h1 := h x (by simp)
    have h2 := ih fun f hf => h f (by simp [hf])
    simp only [List.map_cons, List.sum_cons] at h2 ⊢
    omega
theorem total_crash : ∀ (l : List DFile) (ks : List Int), total (crashF l ks) ≤ total l
  | [], _ => Nat.le_refl _
  | f :: r, ks => by
    have ih := total_crash r ks.tail
    unfold total at *
    simp only [crashF, List.map_cons, List.sum_cons, List.length_take]
    omega
theorem run_total (a : ActM) {st : DSt} (hw : st.wf) : total (a.run st).2.files ≤ total st.files + a.bs.flatten.length := by
  unfold ActM.run
  split
  · show total (st.append _ _).2.files ≤ _
    unfold DSt.append
    cases st.halts
    · simp only [Bool.false_eq_true, if_false]
      by_cases hn : (!nameOk (a.name 0)) = true
      · rw [if_pos hn]; show total st.files ≤ _; omega
      · rw [if_neg hn]
        by_cases hc : st.tick.free < a.bs.flatten.length ∨ findF st.tick.files (a.name 0) = none ∧ 4096 ≤ st.tick.files.length
        · rw [if_pos hc]; show total st.files ≤ _; omega
        · rw [if_neg hc]
          cases hf : findF st.tick.files (a.name 0) with
          | none => show total (insF _ st.files) ≤ _; rw [total_ins]; exact Nat.le_refl _
          | some f =>
            show total (chgF st.files _ _) ≤ _
            have := total_chg (l := st.files) hw.names_ne (F := fun f => { f with data := f.data ++ a.bs.flatten }) hf
            simp only [List.length_append] at this
            omega
    · simp only [if_true]; omega
  · refine Nat.le_trans ?_ (Nat.le_add_right _ _)
    split
    · show total (st.sync _).2.files ≤ _
      unfold DSt.sync
      cases st.halts
      · simp only [Bool.false_eq_true, if_false]
        cases there st.tick.files a.names
        · exact Nat.le_refl _
        · exact total_map_le (l := st.files) fun f _ => by split <;> exact Nat.le_refl _
      · exact Nat.le_refl _
    · split
      · show total (st.rename _ _).2.files ≤ _
        unfold DSt.rename
        cases st.halts
        · simp only [Bool.false_eq_true, if_false]
          cases hf : findF st.tick.files (a.name 0) with
          | none => exact Nat.le_refl _
          | some f =>
            dsimp only
            cases nameOk (a.name 1)
            · exact Nat.le_refl _
            · show total (insF _ (delF (delF st.files (a.name 0)) (a.name 1))) ≤ _
              rw [total_ins]
              have e1 := total_del (l := st.files) hw.names_ne hf
              have e2 := total_del_le (delF st.files (a.name 0)) (a.name 1)
              dsimp only
              omega
        · exact Nat.le_refl _
      · split
        · show total (st.remove _).2.files ≤ _
          unfold DSt.remove
          cases st.halts
          · simp only [Bool.false_eq_true, if_false]
            cases (!there st.tick.files a.names || !nodupB a.names)
            · exact total_filter _ _
            · exact Nat.le_refl _
          · exact Nat.le_refl _
        · split
          · show total (st.cut _ _).2.files ≤ _
            unfold DSt.cut
            cases st.halts
            · simp only [Bool.false_eq_true, if_false]
              cases hf : findF st.tick.files (a.name 0) with
              | none => exact Nat.le_refl _
              | some f =>
                dsimp only
                by_cases hc : a.n < 0 ∨ (f.data.length : Int) < a.n
                · rw [if_pos hc]; exact Nat.le_refl _
                · rw [if_neg hc]
                  refine total_map_le fun g _ => ?_
                  split
                  · simp only [List.length_take]; omega
                  · exact Nat.le_refl _
            · exact Nat.le_refl _
          · split
            · exact total_crash _ _
            · split
              · exact Nat.le_refl _
              · exact Nat.le_refl _
theorem flatten_le (l : List (List UInt8)) : l.flatten.length ≤ (l.map fun s => s.length + 1).sum := by
  induction l with
  | nil => simp
  | cons x r ih => simp only [List.flatten_cons, List.length_append, List.map_cons, List.sum_cons]; omega
theorem size_bs (a : ActM) : a.bs.flatten.length ≤ a.size := by
  have := flatten_le a.bs
  unfold ActM.size
  omega
theorem run_room (a : ActM) (st : DSt) : (a.run st).2.room = st.room := by
  unfold ActM.run DSt.append DSt.sync DSt.rename DSt.remove DSt.cut DSt.crash DSt.stop
  repeat' split
  all_goals first | rfl | (dsimp only; repeat' split) 
  all_goals rfl

/-! ### a crash -/
theorem crash_at (st : DSt) (c : Int) (ks : List Int) : (st.at c).crash ks = st.crash ks := rfl
theorem names_size (a : ActM) : a.names.length ≤ a.size := by
  have : a.names.length ≤ (a.names.map fun s => s.length + 1).sum := by
    generalize a.names = l
    induction l with
    | nil => simp
    | cons x r ih => simp only [List.length_cons, List.map_cons, List.sum_cons]; omega
  unfold ActM.size
  omega
theorem names16 {acts : List ActM} (h : ∀ a ∈ acts, a.size ≤ 1099511627776) : ∀ a ∈ acts, a.names.length * 16 ≤ 140737488355328 := fun a ha => by
  have h1 := h a ha
  have h2 := names_size a
  omega

end Go.Proofs.YtglkonhhknaomaaDoor
