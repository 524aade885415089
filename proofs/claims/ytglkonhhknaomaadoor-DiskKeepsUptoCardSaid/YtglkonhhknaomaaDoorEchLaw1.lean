/- The walk of the law's do: an act on both disks. -/
import Derived.Test.YtglkonhhknaomaaDoorEchLaw0
import Derived.Deep.RegionHeld3
namespace Go.Proofs.YtglkonhhknaomaaDoor
open Go.RowKit Go.Maps

/-- Both disks in memory, their blocks apart and none below B. -/
structure Both (B : Nat) (w : World) (SD SR : Nat → Prop) (d mb : Nat) (stD : DSt) (r : Nat) (stR : DSt) : Prop where
  disk : ∃ fs, DiskAt w SD d mb stD fs
  ref : RefIn w SR r stR
  apart : ∀ k, SD k → ¬ SR k
  lowD : ∀ k, SD k → B ≤ k
  lowR : ∀ k, SR k → B ≤ k

section
variable {B : Nat} {w w' : World} {SD SR : Nat → Prop} {d mb r : Nat} {stD stR st' : DSt}

theorem Both.afterD (h : Both B w SD SR d mb stD r stR) (hB : B ≤ w.heap.size) (hm : Mod SD w w') (hd : ∃ fs, DiskAt w' (Plus SD w w') d mb st' fs) : Both B w' (Plus SD w w') SR d mb st' r stR ∧ Below B w w' := by
  obtain ⟨lv, c, fs, hr⟩ := h.ref
  refine ⟨⟨hd, h.ref.kept hm (fun k e e' => h.apart k e' e), fun k hk e => ?_, fun k hk => ?_, h.lowR⟩, hm.below hB h.lowD⟩
  · rcases hk with hk | hk
    · exact h.apart k hk e
    · have := hr.inS k e; have := hk.1; omega
  · rcases hk with hk | hk
    · exact h.lowD k hk
    · exact Nat.le_trans hB hk.1

theorem Both.afterR (h : Both B w SD SR d mb stD r stR) (hB : B ≤ w.heap.size) (hm : Mod SR w w') (hr : RefIn w' (Plus SR w w') r st') : Both B w' SD (Plus SR w w') d mb stD r st' ∧ Below B w w' := by
  obtain ⟨fs, hd⟩ := h.disk
  refine ⟨⟨⟨fs, hd.kept hm (fun k e => h.apart k e)⟩, hr, fun k hk e => ?_, h.lowD, fun k hk => ?_⟩, hm.below hB h.lowR⟩
  · rcases e with e | e
    · exact h.apart k hk e
    · have := hd.inS k hk; have := e.1; omega
  · rcases hk with hk | hk
    · exact h.lowR k hk
    · exact Nat.le_trans hB hk.1

def LowAct (B : Nat) (x : ActV) : Prop := ∀ q n c, (x.nv = .slice (some q) n c ∨ x.bv = .slice (some q) n c ∨ x.kv = .slice (some q) n c) → 0 < n → q.block < B

/-- From w0 on only blocks of the two sets have turned; what has come to the sets is new. -/
structure Since (SD0 SR0 : Nat → Prop) (w0 w : World) (SD SR : Nat → Prop) : Prop where
  mod : Mod (fun k => SD0 k ∨ SR0 k) w0 w
  d : ∀ k, SD k → SD0 k ∨ w0.heap.size ≤ k
  r : ∀ k, SR k → SR0 k ∨ w0.heap.size ≤ k

theorem since_of {a b c e f : World} (h1 : Mod Nil a b) (h2 : Mod SD b c) (h3 : Mod Nil c e) (h4 : Mod SR e f) : Since SD SR a f (Plus SD b c) (Plus SR e f) := by
  have g1 : Mod (fun k => SD k ∨ SR k) a b := h1.mono fun _ _ e => e.elim
  have g2 : Mod (fun k => SD k ∨ SR k) a c := g1.trans h2 fun i hi => .inl (.inl hi)
  have g3 : Mod (fun k => SD k ∨ SR k) a e := g2.trans h3 fun _ hi => hi.elim
  have g4 : Mod (fun k => SD k ∨ SR k) a f := g3.trans h4 fun i hi => .inl (.inr hi)
  refine ⟨g4, fun k hk => ?_, fun k hk => ?_⟩
  · rcases hk with hk | hk
    · exact .inl hk
    · exact .inr (Nat.le_trans h1.size hk.1)
  · rcases hk with hk | hk
    · exact .inl hk
    · exact .inr (Nat.le_trans g3.size hk.1)
theorem since_same {a b : World} (h1 : Mod Nil a b) : Since SD SR a b SD SR :=
  ⟨h1.mono fun _ _ e => e.elim, fun _ h => .inl h, fun _ h => .inl h⟩
theorem Both.keptN (h : Both B w SD SR d mb stD r stR) (hm : Mod Nil w w') : Both B w' SD SR d mb stD r stR := by
  obtain ⟨fs, hd⟩ := h.disk
  exact ⟨⟨fs, hd.kept hm (fun _ _ e => e)⟩, h.ref.kept hm (fun _ _ e => e), h.apart, h.lowD, h.lowR⟩

def DoPost (B : Nat) (SD0 SR0 : Nat → Prop) (w : World) (d mb r : Nat) (a : ActM) (stD stR : DSt) (e : Ending) (w' : World) : Prop :=
  e = .returned (.bool (decide ((a.run stD).1 = (a.run stR).1))) ∧ ∃ SD SR, Since SD0 SR0 w w' SD SR ∧ Both B w' SD SR d mb (a.run stD).2 r (a.run stR).2

set_option maxRecDepth 100000 in
set_option maxHeartbeats 2000000 in
theorem do_sync {a : ActM} {x : ActV} (h : Both B w SD SR d mb stD r stR) (hB : B ≤ w.heap.size) (ha : ∀ w', Below B w w' → ActAt w' a x) (hlo : LowAct B x) (hk : a.kind = 1) :
    Calls Tryd.prog 9 #[actV a x, .pointer (some ⟨d, 0, none⟩), .pointer (some ⟨r, 0, none⟩)] w (DoPost B SD SR w d mb r a stD stR) := by
  obtain ⟨p, cap, hnv, hl, hx, hc⟩ := (ha w ((Mod.refl Nil w).below hB (fun _ e => e.elim))).names
  unfold actV
  rw [hk, hnv]
  obtain ⟨wz, hwz⟩ : ∃ wz, (w.alloc (.cells #[.int .i64 1, .slice p a.names.length cap, x.bv, .int .i64 a.n, x.kv] 37)).drew = wz := ⟨_, rfl⟩
  have hmz : Mod Nil w wz := by rw [← hwz]; exact ((Mod.refl Nil w).alloc _).drew
  have hz : Both B wz SD SR d mb stD r stR := by
    obtain ⟨fs, hd⟩ := h.disk
    exact ⟨⟨fs, hd.kept hmz (fun _ _ e => e)⟩, h.ref.kept hmz (fun _ _ e => e), h.apart, h.lowD, h.lowR⟩
  have hBz : B ≤ wz.heap.size := Nat.le_trans hB hmz.size
  have hbz : Below B w wz := hmz.below hB (fun _ e => e.elim)
  have hbox : wz.cell? ⟨w.heap.size, 1, none⟩ = some (.slice p a.names.length cap) := by
    rw [← hwz, World.cell?_drew, blk_cell (blk_new w _)]; rfl
  have hwlt : w.heap.size < wz.heap.size := World.block_lt_of_cell? wz _ hbox
  obtain ⟨fs0, hd0⟩ := hz.disk
  have hSD : ∀ k, SD k → k < w.heap.size := fun k e => by obtain ⟨fs, hd⟩ := h.disk; exact hd.inS k e
  have hSR : ∀ k, SR k → k < w.heap.size := fun k e => by obtain ⟨_, _, _, hr⟩ := h.ref; exact hr.inS k e
  have hlow : ∀ q n c', Value.slice p a.names.length cap = .slice (some q) n c' → 0 < n → q.block < B := fun q n c' e hn => hlo q n c' (.inl (hnv.trans e)) hn
  have HSY := Lib.hid (sync_any hd0 (.slice p a.names.length cap) a.names (by rw [← hnv]; exact (ha wz hbz).names) (fun q n c' e hn hS => by have := hlow q n c' e hn; have := h.lowD _ hS; omega))
  have HZ := Lib.hid hz
  have HA := Lib.hid ha
  have HNV := Lib.hid hnv
  have HBZ := Lib.hid hbz
  clear h ha hc hx hl hz hd0 hnv hbz
  subst hwz
  go_enter Tryd.func9, Tryd.ntmps9
  go_wp2_with fail
  go_region_held3 (fun w' => w'.cell? ⟨w.heap.size, 1, none⟩ = some (.slice p a.names.length cap)) (first | go_keep | assumption)
    (first
      | (go_at_call 16
         refine HSY.out.mono ?_
         rintro e w1 ⟨rfl, hm1, hd1⟩
         have hb1 := HZ.out.afterD hBz hm1 hd1
         have hbox1 := (hm1.cell (p := ⟨w.heap.size, 1, none⟩) hwlt (fun e => Nat.lt_irrefl _ (hSD _ e))).trans hbox
         obtain ⟨lv1, c1, fs1, hr1⟩ := hb1.1.ref)
      | (go_at_call 19
         refine (refSync_any hr1 (.slice p a.names.length cap) a.names (fun w' hm => by rw [← HNV.out]; exact (HA.out w' ((HBZ.out.trans hb1.2).trans (hm.below (Nat.le_trans hBz hm1.size) hb1.1.lowR))).names)).mono ?_
         rintro e w2 ⟨rfl, hm2, hr2⟩
         have hb2 := hb1.1.afterR (Nat.le_trans hBz hm1.size) hm2 hr2
         have hbox2 := (hm2.cell (p := ⟨w.heap.size, 1, none⟩) (Nat.lt_of_lt_of_le hwlt hm1.size) (fun e => Nat.lt_irrefl _ (hSR _ e))).trans hbox1))
  have ea : Hid (∀ st : DSt, a.run st = (((st.sync a.names).1 : Int), (st.sync a.names).2)) := fun st => by unfold ActM.run; rw [hk]; simp
  go_wp2_with fail
  go_ret
  have hq := hb2.1
  have hans : a.run stD = (((stD.sync a.names).1 : Int), (stD.sync a.names).2) := ea.out stD
  have hans2 : a.run stR = (((stR.sync a.names).1 : Int), (stR.sync a.names).2) := ea.out stR
  unfold DoPost
  rw [hans, hans2]
  exact ⟨rfl, _, _, since_of hmz hm1 (Mod.refl Nil _) hm2, hq⟩

set_option maxRecDepth 100000 in
set_option maxHeartbeats 2000000 in
theorem do_remove {a : ActM} {x : ActV} (h : Both B w SD SR d mb stD r stR) (hB : B ≤ w.heap.size) (ha : ∀ w', Below B w w' → ActAt w' a x) (hlo : LowAct B x) (hk : a.kind = 3) (hn16 : a.names.length * 16 ≤ 140737488355328) :
    Calls Tryd.prog 9 #[actV a x, .pointer (some ⟨d, 0, none⟩), .pointer (some ⟨r, 0, none⟩)] w (DoPost B SD SR w d mb r a stD stR) := by
  obtain ⟨p, cap, hnv, hl, hx, hc⟩ := (ha w ((Mod.refl Nil w).below hB (fun _ e => e.elim))).names
  unfold actV
  rw [hk, hnv]
  obtain ⟨wz, hwz⟩ : ∃ wz, (w.alloc (.cells #[.int .i64 3, .slice p a.names.length cap, x.bv, .int .i64 a.n, x.kv] 37)).drew = wz := ⟨_, rfl⟩
  have hmz : Mod Nil w wz := by rw [← hwz]; exact ((Mod.refl Nil w).alloc _).drew
  have hz : Both B wz SD SR d mb stD r stR := by
    obtain ⟨fs, hd⟩ := h.disk
    exact ⟨⟨fs, hd.kept hmz (fun _ _ e => e)⟩, h.ref.kept hmz (fun _ _ e => e), h.apart, h.lowD, h.lowR⟩
  have hBz : B ≤ wz.heap.size := Nat.le_trans hB hmz.size
  have hbz : Below B w wz := hmz.below hB (fun _ e => e.elim)
  have hbox : wz.cell? ⟨w.heap.size, 1, none⟩ = some (.slice p a.names.length cap) := by
    rw [← hwz, World.cell?_drew, blk_cell (blk_new w _)]; rfl
  have hwlt : w.heap.size < wz.heap.size := World.block_lt_of_cell? wz _ hbox
  obtain ⟨fs0, hd0⟩ := hz.disk
  have hSD : ∀ k, SD k → k < w.heap.size := fun k e => by obtain ⟨fs, hd⟩ := h.disk; exact hd.inS k e
  have hSR : ∀ k, SR k → k < w.heap.size := fun k e => by obtain ⟨_, _, _, hr⟩ := h.ref; exact hr.inS k e
  have hlow : ∀ q n c', Value.slice p a.names.length cap = .slice (some q) n c' → 0 < n → q.block < B := fun q n c' e hn => hlo q n c' (.inl (hnv.trans e)) hn
  have HSY := Lib.hid (remove_any hd0 (.slice p a.names.length cap) a.names (by rw [← hnv]; exact (ha wz hbz).names) hn16 (fun q n c' e hn hS => by have := hlow q n c' e hn; have := h.lowD _ hS; omega))
  have HZ := Lib.hid hz
  have HA := Lib.hid ha
  have HNV := Lib.hid hnv
  have HBZ := Lib.hid hbz
  clear h ha hc hx hl hz hd0 hnv hbz
  subst hwz
  go_enter Tryd.func9, Tryd.ntmps9
  go_wp2_with fail
  go_region_held3 (fun w' => w'.cell? ⟨w.heap.size, 1, none⟩ = some (.slice p a.names.length cap)) (first | go_keep | assumption)
    (first
      | (go_at_call 22
         refine HSY.out.mono ?_
         rintro e w1 ⟨rfl, hm1, hd1⟩
         have hb1 := HZ.out.afterD hBz hm1 hd1
         have hbox1 := (hm1.cell (p := ⟨w.heap.size, 1, none⟩) hwlt (fun e => Nat.lt_irrefl _ (hSD _ e))).trans hbox
         obtain ⟨lv1, c1, fs1, hr1⟩ := hb1.1.ref)
      | (go_at_call 23
         refine (refRemove_any hr1 (.slice p a.names.length cap) a.names (fun w' hm => by rw [← HNV.out]; exact (HA.out w' ((HBZ.out.trans hb1.2).trans (hm.below (Nat.le_trans hBz hm1.size) hb1.1.lowR))).names)).mono ?_
         rintro e w2 ⟨rfl, hm2, hr2⟩
         have hb2 := hb1.1.afterR (Nat.le_trans hBz hm1.size) hm2 hr2
         have hbox2 := (hm2.cell (p := ⟨w.heap.size, 1, none⟩) (Nat.lt_of_lt_of_le hwlt hm1.size) (fun e => Nat.lt_irrefl _ (hSR _ e))).trans hbox1))
  have ea : Hid (∀ st : DSt, a.run st = (((st.remove a.names).1 : Int), (st.remove a.names).2)) := fun st => by unfold ActM.run; rw [hk]; simp
  go_wp2_with fail
  go_ret
  have hq := hb2.1
  have hans : a.run stD = (((stD.remove a.names).1 : Int), (stD.remove a.names).2) := ea.out stD
  have hans2 : a.run stR = (((stR.remove a.names).1 : Int), (stR.remove a.names).2) := ea.out stR
  unfold DoPost
  rw [hans, hans2]
  exact ⟨rfl, _, _, since_of hmz hm1 (Mod.refl Nil _) hm2, hq⟩

set_option maxRecDepth 100000 in
set_option maxHeartbeats 2000000 in
theorem do_crash {a : ActM} {x : ActV} (h : Both B w SD SR d mb stD r stR) (hB : B ≤ w.heap.size) (ha : ∀ w', Below B w w' → ActAt w' a x) (hlo : LowAct B x) (hk : a.kind = 5) :
    Calls Tryd.prog 9 #[actV a x, .pointer (some ⟨d, 0, none⟩), .pointer (some ⟨r, 0, none⟩)] w (DoPost B SD SR w d mb r a stD stR) := by
  obtain ⟨p, cap, hnv, hl, hx, hc⟩ := (ha w ((Mod.refl Nil w).below hB (fun _ e => e.elim))).keep
  unfold actV
  rw [hk, hnv]
  obtain ⟨wz, hwz⟩ : ∃ wz, (w.alloc (.cells #[.int .i64 5, x.nv, x.bv, .int .i64 a.n, .slice p a.keep.length cap] 37)).drew = wz := ⟨_, rfl⟩
  have hmz : Mod Nil w wz := by rw [← hwz]; exact ((Mod.refl Nil w).alloc _).drew
  have hz : Both B wz SD SR d mb stD r stR := by
    obtain ⟨fs, hd⟩ := h.disk
    exact ⟨⟨fs, hd.kept hmz (fun _ _ e => e)⟩, h.ref.kept hmz (fun _ _ e => e), h.apart, h.lowD, h.lowR⟩
  have hBz : B ≤ wz.heap.size := Nat.le_trans hB hmz.size
  have hbz : Below B w wz := hmz.below hB (fun _ e => e.elim)
  have hbox : wz.cell? ⟨w.heap.size, 4, none⟩ = some (.slice p a.keep.length cap) := by
    rw [← hwz, World.cell?_drew, blk_cell (blk_new w _)]; rfl
  have hwlt : w.heap.size < wz.heap.size := World.block_lt_of_cell? wz _ hbox
  obtain ⟨fs0, hd0⟩ := hz.disk
  have hSD : ∀ k, SD k → k < w.heap.size := fun k e => by obtain ⟨fs, hd⟩ := h.disk; exact hd.inS k e
  have hSR : ∀ k, SR k → k < w.heap.size := fun k e => by obtain ⟨_, _, _, hr⟩ := h.ref; exact hr.inS k e
  have hlow : ∀ q n c', Value.slice p a.keep.length cap = .slice (some q) n c' → 0 < n → q.block < B := fun q n c' e hn => hlo q n c' (.inr (.inr (hnv.trans e))) hn
  have HSY := Lib.hid (crash_any hd0 (.slice p a.keep.length cap) a.keep (by rw [← hnv]; exact (ha wz hbz).keep) (fun q n c' e hn hS => by have := hlow q n c' e hn; have := h.lowD _ hS; omega))
  have HZ := Lib.hid hz
  have HA := Lib.hid ha
  have HNV := Lib.hid hnv
  have HBZ := Lib.hid hbz
  clear h ha hc hx hl hz hd0 hnv hbz
  subst hwz
  go_enter Tryd.func9, Tryd.ntmps9
  go_wp2_with fail
  go_region_held3 (fun w' => w'.cell? ⟨w.heap.size, 4, none⟩ = some (.slice p a.keep.length cap)) (first | go_keep | assumption)
    (first
      | (go_at_call 10
         refine HSY.out.mono ?_
         rintro e w1 ⟨rfl, hm1, hd1⟩
         have hb1 := HZ.out.afterD hBz hm1 hd1
         have hbox1 := (hm1.cell (p := ⟨w.heap.size, 4, none⟩) hwlt (fun e => Nat.lt_irrefl _ (hSD _ e))).trans hbox
         obtain ⟨lv1, c1, fs1, hr1⟩ := hb1.1.ref)
      | (go_at_call 26
         refine (refCrash_any hr1 (.slice p a.keep.length cap) a.keep (fun w' hm => by rw [← HNV.out]; exact (HA.out w' ((HBZ.out.trans hb1.2).trans (hm.below (Nat.le_trans hBz hm1.size) hb1.1.lowR))).keep)).mono ?_
         rintro e w2 ⟨rfl, hm2, hr2⟩
         have hb2 := hb1.1.afterR (Nat.le_trans hBz hm1.size) hm2 hr2
         have hbox2 := (hm2.cell (p := ⟨w.heap.size, 4, none⟩) (Nat.lt_of_lt_of_le hwlt hm1.size) (fun e => Nat.lt_irrefl _ (hSR _ e))).trans hbox1))
  have ea : Hid (∀ st : DSt, a.run st = ((goneF st.files a.keep : Int), st.crash a.keep)) := fun st => by unfold ActM.run; rw [hk]; simp
  go_wp2_with fail
  go_ret
  have hq := hb2.1
  have hans : a.run stD = ((goneF stD.files a.keep : Int), stD.crash a.keep) := ea.out stD
  have hans2 : a.run stR = ((goneF stR.files a.keep : Int), stR.crash a.keep) := ea.out stR
  unfold DoPost
  rw [hans, hans2]
  exact ⟨rfl, _, _, since_of hmz hm1 (Mod.refl Nil _) hm2, hq⟩

set_option maxRecDepth 100000 in
set_option maxHeartbeats 2000000 in
theorem do_else {a : ActM} {x : ActV} (h : Both B w SD SR d mb stD r stR) (hB : B ≤ w.heap.size) (ha : ∀ w', Below B w w' → ActAt w' a x) (hk : a.kind < 0 ∨ 6 < a.kind) :
    Calls Tryd.prog 9 #[actV a x, .pointer (some ⟨d, 0, none⟩), .pointer (some ⟨r, 0, none⟩)] w (DoPost B SD SR w d mb r a stD stR) := by
  have ha0 := ha w ((Mod.refl Nil w).below hB (fun _ e => e.elim))
  obtain ⟨p1, c1, h1, -⟩ := ha0.names
  obtain ⟨p2, c2, h2, -⟩ := ha0.bs
  obtain ⟨p3, c3, h3, -⟩ := ha0.keep
  have k0 := ha0.kind0
  have k1 := ha0.kind1
  have ea : Hid (∀ st : DSt, a.run st = (0, st)) := fun st => by
    unfold ActM.run
    rw [if_neg (by omega), if_neg (by omega), if_neg (by omega), if_neg (by omega), if_neg (by omega), if_neg (by omega), if_neg (by omega)]
  have n0 : (a.kind == 0) = false := by simp; omega
  have n1 : (a.kind == 1) = false := by simp; omega
  have n2 : (a.kind == 2) = false := by simp; omega
  have n3 : (a.kind == 3) = false := by simp; omega
  have n4 : (a.kind == 4) = false := by simp; omega
  have n5 : (a.kind == 5) = false := by simp; omega
  have n6 : (a.kind == 6) = false := by simp; omega
  have H := Lib.hid h
  unfold actV
  rw [h1, h2, h3]
  clear h ha ha0
  go_enter Tryd.func9, Tryd.ntmps9
  go_wp2_with fail
  go_ret
  have hans := ea.out stD
  have hans2 := ea.out stR
  unfold DoPost
  rw [hans, hans2]
  have hm : Mod Nil w (w.alloc (.cells #[.int .i64 a.kind, .slice p1 a.names.length c1, .slice p2 a.bs.length c2, .int .i64 a.n, .slice p3 a.keep.length c3] 37)) := (Mod.refl Nil w).alloc _
  exact ⟨rfl, SD, SR, since_same hm, H.out.keptN hm⟩

set_option maxRecDepth 100000 in
set_option maxHeartbeats 2000000 in
theorem do_stop {a : ActM} {x : ActV} (h : Both B w SD SR d mb stD r stR) (hB : B ≤ w.heap.size) (ha : ∀ w', Below B w w' → ActAt w' a x) (hk : a.kind = 6) :
    Calls Tryd.prog 9 #[actV a x, .pointer (some ⟨d, 0, none⟩), .pointer (some ⟨r, 0, none⟩)] w (DoPost B SD SR w d mb r a stD stR) := by
  have ha0 := ha w ((Mod.refl Nil w).below hB (fun _ e => e.elim))
  obtain ⟨p1, c1, h1, -⟩ := ha0.names
  obtain ⟨p2, c2, h2, -⟩ := ha0.bs
  obtain ⟨p3, c3, h3, -⟩ := ha0.keep
  have N1 := Lib.hid ha0.n1
  have ea : Hid (∀ st : DSt, a.run st = (0, st.stop a.n)) := fun st => by unfold ActM.run; rw [hk]; simp
  obtain ⟨wz, hwz⟩ : ∃ wz, w.alloc (.cells #[.int .i64 6, .slice p1 a.names.length c1, .slice p2 a.bs.length c2, .int .i64 a.n, .slice p3 a.keep.length c3] 37) = wz := ⟨_, rfl⟩
  have hmz : Mod Nil w wz := by rw [← hwz]; exact (Mod.refl Nil w).alloc _
  have hz : Both B wz SD SR d mb stD r stR := by
    obtain ⟨fs, hd⟩ := h.disk
    exact ⟨⟨fs, hd.kept hmz (fun _ _ e => e)⟩, h.ref.kept hmz (fun _ _ e => e), h.apart, h.lowD, h.lowR⟩
  have hBz : B ≤ wz.heap.size := Nat.le_trans hB hmz.size
  have hbox : wz.cell? ⟨w.heap.size, 3, none⟩ = some (.int .i64 a.n) := by
    rw [← hwz, blk_cell (blk_new w _)]; rfl
  have hwlt : w.heap.size < wz.heap.size := World.block_lt_of_cell? wz _ hbox
  have hSD : ∀ k, SD k → k < w.heap.size := fun k e => by obtain ⟨fs, hd⟩ := h.disk; exact hd.inS k e
  have HZ := Lib.hid hz
  obtain ⟨fs0, hd0⟩ := hz.disk
  have HS := Lib.hid (stop_any hd0 a.n N1.out)
  unfold actV
  rw [hk, h1, h2, h3]
  clear h ha ha0 hz hd0
  subst hwz
  go_enter Tryd.func9, Tryd.ntmps9
  go_wp2_with fail
  refine HS.out.mono ?_
  rintro e w1 ⟨rfl, hd1, hm1, -⟩
  have hb1 := HZ.out.afterD hBz hm1 ⟨_, plus_self hd1⟩
  have hbox1 := (hm1.cell (p := ⟨w.heap.size, 3, none⟩) hwlt (fun e => Nat.lt_irrefl _ (hSD _ e))).trans hbox
  obtain ⟨lv1, c1', fs1, hr1⟩ := hb1.1.ref
  have HS2 := Lib.hid (refStop_any hr1 a.n N1.out)
  have HB1 := Lib.hid hb1
  have HM1 := Lib.hid hm1
  have hs1 := hm1.size
  clear hd1 hm1 hr1 hb1 HS hbox
  go_wp2_with fail
  refine HS2.out.mono ?_
  rintro e w2 ⟨rfl, hr2, hm2, -⟩
  have hb2 := HB1.out.1.afterR (Nat.le_trans hBz hs1) hm2 ⟨_, _, _, hr2.plusSelf⟩
  have HB2 := Lib.hid hb2
  have HM2 := Lib.hid hm2
  clear hr2 hm2 hb2 HS2
  go_wp2_with fail
  go_ret
  have hans := ea.out stD
  have hans2 := ea.out stR
  unfold DoPost
  rw [hans, hans2]
  exact ⟨rfl, _, _, since_of hmz HM1.out (Mod.refl Nil _) HM2.out, HB2.out.1⟩

end
end Go.Proofs.YtglkonhhknaomaaDoor
