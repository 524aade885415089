/- What stands in memory while the law's scripts run: do at any act; two disks and a document's one beside one another; the acts as they came in. -/
import Derived.Test.YtglkonhhknaomaaDoorEchLaw2
import Derived.Test.YtglkonhhknaomaaDoorEchLaw3
namespace Go.Proofs.YtglkonhhknaomaaDoor
open Go.RowKit Go.Maps

section
variable {B : Nat} {w w' w1 w2 : World} {SA SB SR SA' SB' SR' SD : Nat → Prop} {d mb dA mA dB mB r y : Nat} {stA stB stD stR stA' stB' stY stY' : DSt}

theorem do_any {a : ActM} {x : ActV} (h : Both B w SD SR d mb stD r stR) (hB : B ≤ w.heap.size) (ha : ∀ w', Below B w w' → ActAt w' a x) (hlo : LowAct B x) (hn16 : a.names.length * 16 ≤ 140737488355328)
    (hsD : total stD.files + a.bs.flatten.length ≤ 1099511627776) (hsR : total stR.files + a.bs.flatten.length ≤ 1099511627776) :
    Calls Tryd.prog 9 #[.agg #[.int .i64 a.kind, x.nv, x.bv, .int .i64 a.n, x.kv], .pointer (some ⟨d, 0, none⟩), .pointer (some ⟨r, 0, none⟩)] w (DoPost B SD SR w d mb r a stD stR) := by
  by_cases k0 : a.kind = 0
  · exact do_append h hB ha k0 hlo hsD hsR
  by_cases k1 : a.kind = 1
  · exact do_sync h hB ha hlo k1
  by_cases k2 : a.kind = 2
  · exact do_rename h hB ha k2
  by_cases k3 : a.kind = 3
  · exact do_remove h hB ha hlo k3 hn16
  by_cases k4 : a.kind = 4
  · exact do_cut h hB ha k4
  by_cases k5 : a.kind = 5
  · exact do_crash h hB ha hlo k5
  by_cases k6 : a.kind = 6
  · exact do_stop h hB ha k6
  · exact do_else h hB ha (by omega)

theorem Both.kept (h : Both B w SD SR d mb stD r stR) {T : Nat → Prop} (hm : Mod T w w') (hn : ∀ k, SD k → ¬ T k) (hn2 : ∀ k, SR k → ¬ T k) : Both B w' SD SR d mb stD r stR := by
  obtain ⟨fs, hd⟩ := h.disk
  exact ⟨⟨fs, hd.kept hm hn⟩, h.ref.kept hm hn2, h.apart, h.lowD, h.lowR⟩

structure ThreeAt (B : Nat) (w : World) (SA SB SR : Nat → Prop) (dA mA dB mB r : Nat) (stA stB : DSt) : Prop where
  a : ∃ fs, DiskAt w SA dA mA stA fs
  b : Both B w SB SR dB mB stB r stB
  ab : ∀ k, SA k → ¬ SB k
  ar : ∀ k, SA k → ¬ SR k
  lowA : ∀ k, SA k → B ≤ k

theorem ThreeAt.nil (h : ThreeAt B w SA SB SR dA mA dB mB r stA stB) (hm : Mod Nil w w') : ThreeAt B w' SA SB SR dA mA dB mB r stA stB := by
  obtain ⟨fs, hd⟩ := h.a
  exact ⟨⟨fs, hd.kept hm (fun _ _ e => e)⟩, h.b.keptN hm, h.ab, h.ar, h.lowA⟩

theorem ThreeAt.stepB (h : ThreeAt B w1 SA SB SR dA mA dB mB r stA stB) (hB : B ≤ w1.heap.size) (hs : Since SB SR w1 w2 SB' SR') (hb : Both B w2 SB' SR' dB mB stB' r stB') : ThreeAt B w2 SA SB' SR' dA mA dB mB r stA stB' ∧ Below B w1 w2 := by
  obtain ⟨fs, hd⟩ := h.a
  refine ⟨⟨⟨fs, hd.kept hs.mod (fun k e e' => e'.elim (h.ab k e) (h.ar k e))⟩, hb, fun k e e' => ?_, fun k e e' => ?_, h.lowA⟩, hs.mod.below hB (fun k e => e.elim (h.b.lowD k) (h.b.lowR k))⟩
  · rcases hs.d k e' with e2 | e2
    · exact h.ab k e e2
    · have := hd.inS k e; omega
  · rcases hs.r k e' with e2 | e2
    · exact h.ar k e e2
    · have := hd.inS k e; omega

theorem refAt_new (w : World) (room : Nat) (b : Bool) (c : Int) (hc : c = if b then 0 else -1) (h : room ≤ 9223372036854775807) :
    RefIn (w.alloc (.cells #[.int .i64 (room : Int), .slice none 0 0, .bool b, .int .i64 0] 31)) (fun k => k = w.heap.size) w.heap.size ⟨room, c, []⟩ := by
  refine ⟨.slice none 0 0, 0, [], ?_⟩
  have hb := blk_new w (.cells #[.int .i64 (room : Int), .slice none 0 0, .bool b, .int .i64 0] 31)
  have hc2 : decide (0 ≤ c) = b := by subst hc; cases b <;> rfl
  exact {
    blk := by show _ = some (Obj.cells #[_, _, .bool (decide (0 ≤ c)), _] _ _); rw [hc2]; exact hb
    calls := fun h => by cases b <;> simp_all
    row := World.ownsRow_nil _ _ _ _
    bytes := fun f hf => by cases hf
    neR := fun e => by cases e
    apart := fun f hf => by cases hf
    pair := List.Pairwise.nil
    ownR := rfl
    ownL := fun k hk => by cases hk
    own := fun f hf => by cases hf
    inS := fun k hk => by subst hk; simp
    abs := rfl
    wf := ⟨h, by simp [total], by simp [total], by subst hc; cases b <;> simp, by subst hc; cases b <;> simp, by simp, by simp, by simp, by simp⟩ }

theorem ThreeAt.fresh (h : ThreeAt B w1 SA SB SR dA mA dB mB r stA stB) (hB : B ≤ w1.heap.size) {o : Obj} (hr : RefIn (w1.alloc o) (fun k => k = w1.heap.size) w1.heap.size stY) : Both B (w1.alloc o) SA (fun k => k = w1.heap.size) dA mA stA w1.heap.size stY := by
  obtain ⟨fs, hd⟩ := h.a
  refine ⟨⟨fs, hd.kept ((Mod.refl Nil _).alloc _) (fun _ _ e => e)⟩, hr, fun k e e' => ?_, h.lowA, fun k e => by subst e; exact hB⟩
  subst e'
  exact Nat.lt_irrefl _ (hd.inS _ e)

theorem ThreeAt.stepA {o : Obj} (h : ThreeAt B w1 SA SB SR dA mA dB mB r stA stB) (hB : B ≤ w1.heap.size) {SX SX' : Nat → Prop} (hX : ∀ k, SX k → w1.heap.size ≤ k) (hs : Since SA SX (w1.alloc o) w2 SA' SX') (hb : Both B w2 SA' SX' dA mA stA' y stY') : ThreeAt B w2 SA' SB SR dA mA dB mB r stA' stB ∧ Below B w1 w2 := by
  have hm : Mod (fun k => SA k ∨ SX k) w1 w2 := ((Mod.refl _ _).alloc o).trans hs.mod (fun i hi => .inl hi)
  have hBs : ∀ k, SB k → k < w1.heap.size := fun k e => by obtain ⟨fs, hd⟩ := h.b.disk; exact hd.inS k e
  have hRs : ∀ k, SR k → k < w1.heap.size := fun k e => by obtain ⟨_, _, _, hr⟩ := h.b.ref; exact hr.inS k e
  have hz : w1.heap.size ≤ (w1.alloc o).heap.size := by simp
  refine ⟨⟨hb.disk, h.b.kept hm (fun k e e' => ?_) (fun k e e' => ?_), fun k e e' => ?_, fun k e e' => ?_, hb.lowD⟩, hm.below hB (fun k e => e.elim (h.lowA k) (fun e => Nat.le_trans hB (hX k e)))⟩
  · rcases e' with e' | e'
    · exact h.ab k e' e
    · have := hBs k e; have := hX k e'; omega
  · rcases e' with e' | e'
    · exact h.ar k e' e
    · have := hRs k e; have := hX k e'; omega
  · rcases hs.d k e with e2 | e2
    · exact h.ab k e2 e'
    · have := hBs k e'; omega
  · rcases hs.d k e with e2 | e2
    · exact h.ar k e2 e'
    · have := hRs k e'; omega

theorem ThreeAt.modA (h : ThreeAt B w1 SA SB SR dA mA dB mB r stA stB) (hB : B ≤ w1.heap.size) (hm : Mod SA w1 w2) (ha : ∃ fs, DiskAt w2 SA dA mA stA' fs) : ThreeAt B w2 SA SB SR dA mA dB mB r stA' stB ∧ Below B w1 w2 :=
  ⟨⟨ha, h.b.kept hm (fun k e e' => h.ab k e' e) (fun k e e' => h.ar k e' e), h.ab, h.ar, h.lowA⟩, hm.below hB h.lowA⟩

/-- The three, whatever their sets. -/
def ThreeX (B : Nat) (w : World) (dA mA dB mB r : Nat) (stA stB : DSt) : Prop := ∃ SA SB SR, ThreeAt B w SA SB SR dA mA dB mB r stA stB

theorem ThreeX.nil (h : ThreeX B w dA mA dB mB r stA stB) (hm : Mod Nil w w') : ThreeX B w' dA mA dB mB r stA stB := by
  obtain ⟨SA, SB, SR, h⟩ := h
  exact ⟨SA, SB, SR, h.nil hm⟩

section
variable {a : ActM} {x : ActV} {rm : Nat}
theorem do_halted (h : ThreeX B w1 dA mA dB mB r stA stB) (hB : B ≤ w1.heap.size) (ha : ∀ w', Below B w1 w' → ActAt w' a x) (hlo : LowAct B x) (hn16 : a.names.length * 16 ≤ 140737488355328) (hsD : total stA.files + a.bs.flatten.length ≤ 1099511627776)
    (hrm : rm ≤ 9223372036854775807) (h0 : 0 ≤ a.kind) (h4 : a.kind ≤ 4) (hz : stA.calls = 0) :
    Calls Tryd.prog 9 #[.agg #[.int .i64 a.kind, x.nv, x.bv, .int .i64 a.n, x.kv], .pointer (some ⟨dA, 0, none⟩), .pointer (some ⟨w1.heap.size, 0, none⟩)] (w1.alloc (.cells #[.int .i64 (rm : Int), .slice none 0 0, .bool true, .int .i64 0] 31))
      (fun e w' => e = .returned (.bool true) ∧ ThreeX B w' dA mA dB mB r stA stB ∧ Below B w1 w') := by
  obtain ⟨SA, SB, SR, h⟩ := h
  have hx := h.fresh hB (refAt_new w1 rm true 0 rfl hrm)
  have hW : Below B w1 (w1.alloc (.cells #[.int .i64 (rm : Int), .slice none 0 0, .bool true, .int .i64 0] 31)) := (Below.refl _ _).alloc hB _
  refine (do_any hx (Nat.le_trans hB hW.size) (fun w' h => ha w' (hW.trans h)) hlo hn16 hsD (by show total [] + _ ≤ _; rw [show total ([] : List DFile) = 0 from rfl]; omega)).mono ?_
  rintro e w' ⟨rfl, SA', SX', hs, hb⟩
  rw [run_halt h0 h4 hz, run_halt h0 h4 (st := ⟨rm, 0, []⟩) rfl] at *
  obtain ⟨h3, h4⟩ := h.stepA hB (fun k e => by subst e; exact Nat.le_refl _) hs hb
  exact ⟨by simp, ⟨SA', SB, SR, h3⟩, h4⟩

theorem do_both (h : ThreeX B w1 dA mA dB mB r stA stB) (hB : B ≤ w1.heap.size) (ha : ∀ w', Below B w1 w' → ActAt w' a x) (hlo : LowAct B x) (hn16 : a.names.length * 16 ≤ 140737488355328) (hsD : total stB.files + a.bs.flatten.length ≤ 1099511627776) :
    Calls Tryd.prog 9 #[.agg #[.int .i64 a.kind, x.nv, x.bv, .int .i64 a.n, x.kv], .pointer (some ⟨dB, 0, none⟩), .pointer (some ⟨r, 0, none⟩)] w1
      (fun e w' => e = .returned (.bool true) ∧ ThreeX B w' dA mA dB mB r stA (a.run stB).2 ∧ Below B w1 w') := by
  obtain ⟨SA, SB, SR, h⟩ := h
  refine (do_any h.b hB ha hlo hn16 hsD hsD).mono ?_
  rintro e w' ⟨rfl, SB', SR', hs, hb⟩
  obtain ⟨h3, h4⟩ := h.stepB hB hs hb
  exact ⟨by simp, ⟨SA, SB', SR', h3⟩, h4⟩

theorem do_aside (h : ThreeX B w1 dA mA dB mB r stA stB) (hB : B ≤ w1.heap.size) (ha : ∀ w', Below B w1 w' → ActAt w' a x) (hlo : LowAct B x) (hn16 : a.names.length * 16 ≤ 140737488355328) (hsD : total stA.files + a.bs.flatten.length ≤ 1099511627776) (hrm : rm ≤ 9223372036854775807) :
    Calls Tryd.prog 9 #[.agg #[.int .i64 a.kind, x.nv, x.bv, .int .i64 a.n, x.kv], .pointer (some ⟨dA, 0, none⟩), .pointer (some ⟨w1.heap.size, 0, none⟩)] (w1.alloc (.cells #[.int .i64 (rm : Int), .slice none 0 0, .bool false, .int .i64 0] 31))
      (fun e w' => ∃ b, e = .returned (.bool b) ∧ ThreeX B w' dA mA dB mB r (a.run stA).2 stB ∧ Below B w1 w') := by
  obtain ⟨SA, SB, SR, h⟩ := h
  have hx := h.fresh hB (refAt_new w1 rm false (-1) rfl hrm)
  have hW : Below B w1 (w1.alloc (.cells #[.int .i64 (rm : Int), .slice none 0 0, .bool false, .int .i64 0] 31)) := (Below.refl _ _).alloc hB _
  refine (do_any hx (Nat.le_trans hB hW.size) (fun w' h => ha w' (hW.trans h)) hlo hn16 hsD (by show total [] + _ ≤ _; rw [show total ([] : List DFile) = 0 from rfl]; omega)).mono ?_
  rintro e w' ⟨rfl, SA', SX', hs, hb⟩
  obtain ⟨h3, h4⟩ := h.stepA hB (fun k e => by subst e; exact Nat.le_refl _) hs hb
  exact ⟨_, rfl, ⟨SA', SB, SR, h3⟩, h4⟩
end

/-- Two new disks, and a document's one behind them. -/
theorem three_new {w w1 w2 w3 : World} {dA mA dB mB : Nat} {stA stB : DSt} {fsA fsB : List FileR} (z1 : w.heap.size ≤ w1.heap.size) (hA : DiskAt w2 (Plus Nil w1 w2) dA mA stA fsA) (mA' : Mod Nil w1 w2) (hB : DiskAt w3 (Plus Nil w2 w3) dB mB stB fsB) (mB' : Mod Nil w2 w3)
    (room : Nat) (hr : room ≤ 9223372036854775807) (hst : stB = ⟨room, -1, []⟩) :
    ThreeAt w.heap.size (w3.alloc (.cells #[.int .i64 (room : Int), .slice none 0 0, .bool false, .int .i64 0] 31)) (Plus Nil w1 w2) (Plus Nil w2 w3) (fun k => k = w3.heap.size) dA mA dB mB w3.heap.size stA stB := by
  have s1 := mA'.size
  have s2 := mB'.size
  have hrf := refAt_new w3 room false (-1) rfl hr
  rw [← hst] at hrf
  refine ⟨⟨_, (hA.kept mB' (fun _ _ e => e)).kept ((Mod.refl Nil _).alloc _) (fun _ _ e => e)⟩, ⟨⟨_, hB.kept ((Mod.refl Nil _).alloc _) (fun _ _ e => e)⟩, hrf, ?_, ?_, ?_⟩, ?_, ?_, ?_⟩
  · intro k hk e
    have := hB.inS k hk
    omega
  · intro k hk
    rcases hk with hk | hk
    · exact hk.elim
    · omega
  · intro k hk
    omega
  · intro k hk hk2
    rcases hk with hk | hk
    · exact hk.elim
    · rcases hk2 with hk2 | hk2
      · exact hk2.elim
      · omega
  · intro k hk hk2
    rcases hk with hk | hk
    · exact hk.elim
    · omega
  · intro k hk
    rcases hk with hk | hk
    · exact hk.elim
    · omega

/-- The acts as they came in: of the world at the begin. -/
def ActsAt (w : World) (v : Value) (acts : List ActM) : Prop :=
  ∃ (p : Option Addr) (cap : Nat), v = .slice p acts.length cap ∧ acts.length ≤ maxLen ∧
    ∀ i (_ : i < acts.length), ∃ b off x, p = some ⟨b, off, none⟩ ∧ b < w.heap.size ∧
      (w.cell? ⟨b, off + i * 5, none⟩ = some (.int .i64 acts[i].kind) ∧ w.cell? ⟨b, off + i * 5 + 1, none⟩ = some x.nv ∧ w.cell? ⟨b, off + i * 5 + 2, none⟩ = some x.bv ∧ w.cell? ⟨b, off + i * 5 + 3, none⟩ = some (.int .i64 acts[i].n) ∧ w.cell? ⟨b, off + i * 5 + 4, none⟩ = some x.kv) ∧
      (∀ w', Below w.heap.size w w' → ActAt w' acts[i] x) ∧ LowAct w.heap.size x

end
end Go.Proofs.YtglkonhhknaomaaDoor
