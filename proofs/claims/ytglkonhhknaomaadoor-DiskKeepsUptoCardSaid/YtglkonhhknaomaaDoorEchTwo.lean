/- Two disks beside one another: what is asked of them behind a script. -/
import Derived.Test.YtglkonhhknaomaaDoorEchLaw4
namespace Go.Proofs.YtglkonhhknaomaaDoor
open Go.RowKit Go.Maps

section
variable {B : Nat} {w w' w1 w2 : World} {dA mA dB mB r : Nat} {stA stB st stA' : DSt}

def TwoX (B : Nat) (w : World) (dA mA dB mB : Nat) (stA stB : DSt) : Prop :=
  ∃ SA SB, (∃ fs, DiskAt w SA dA mA stA fs) ∧ (∃ fs, DiskAt w SB dB mB stB fs) ∧ (∀ k, SA k → ¬ SB k) ∧ (∀ k, SA k → B ≤ k) ∧ (∀ k, SB k → B ≤ k)

theorem ThreeX.two (h : ThreeX B w dA mA dB mB r stA stB) : TwoX B w dA mA dB mB stA stB := by
  obtain ⟨SA, SB, SR, h⟩ := h
  exact ⟨SA, SB, h.a, h.b.disk, h.ab, h.lowA, h.b.lowD⟩
theorem TwoX.symm (h : TwoX B w dA mA dB mB stA stB) : TwoX B w dB mB dA mA stB stA := by
  obtain ⟨SA, SB, hA, hB, hn, h1, h2⟩ := h
  exact ⟨SB, SA, hB, hA, fun k e e' => hn k e' e, h2, h1⟩
theorem TwoX.nil (h : TwoX B w dA mA dB mB stA stB) (hm : Mod Nil w w') : TwoX B w' dA mA dB mB stA stB := by
  obtain ⟨SA, SB, ⟨fs, hA⟩, ⟨fs', hB⟩, hn, h1, h2⟩ := h
  exact ⟨SA, SB, ⟨fs, hA.kept hm (fun _ _ e => e)⟩, ⟨fs', hB.kept hm (fun _ _ e => e)⟩, hn, h1, h2⟩
theorem two_step {SA SB : Nat → Prop} {fs fs' : List FileR} (hA : DiskAt w SA dA mA stA fs) (hB' : DiskAt w SB dB mB stB fs') (hn : ∀ k, SA k → ¬ SB k) (h1 : ∀ k, SA k → B ≤ k) (h2 : ∀ k, SB k → B ≤ k) (hB : B ≤ w.heap.size) (hm : Mod SA w w') (hd : ∃ fs, DiskAt w' (Plus SA w w') dA mA stA' fs) : TwoX B w' dA mA dB mB stA' stB ∧ Below B w w' := by
  refine ⟨⟨_, SB, hd, ⟨_, hB'.kept hm (fun k e e' => hn k e' e)⟩, fun k e e' => ?_, fun k e => ?_, h2⟩, hm.below hB h1⟩
  · rcases e with e | e
    · exact hn k e e'
    · have := hB'.inS k e'; have := e.1; omega
  · rcases e with e | e
    · exact h1 k e
    · exact Nat.le_trans hB e.1

theorem crash_two (h : TwoX B w dA mA dB mB stA stB) (hB : B ≤ w.heap.size) {n : Nat} {cs : Array Value} (t : TypeId) (ks : List Int) (hc : cs.toList = ks.map (Value.int .i64)) (hn : n = ks.length) (hm : ks.length ≤ maxLen) (hks : ∀ x ∈ ks, -9223372036854775808 ≤ x ∧ x ≤ 9223372036854775807) :
    Calls Tryd.prog 10 #[.pointer (some ⟨dA, 0, none⟩), .slice (some ⟨w.heap.size, 0, none⟩) n n] (w.alloc (.cells cs t)) fun e w' => ∃ k, e = .returned (.int .i64 k) ∧ TwoX B w' dA mA dB mB (stA.crash ks) stB ∧ Below B w w' := by
  have hm0 : Mod Nil w (w.alloc (.cells cs t)) := (Mod.refl Nil _).alloc _
  obtain ⟨SA, SB, ⟨fs, hA⟩, ⟨fs', hB'⟩, hd, h1, h2⟩ := h
  refine (crash_any (hA.kept hm0 (fun _ _ e => e)) _ ks (intsAt_blk ks (blk_new w _) hc hn hm hks) (fun p n c e _ hS => ?_)).mono ?_
  · cases e
    exact Nat.lt_irrefl _ (hA.inS _ hS)
  · rintro e w' ⟨rfl, hm1, hd1⟩
    obtain ⟨g1, g2⟩ := two_step (hA.kept hm0 (fun _ _ e => e)) (hB'.kept hm0 (fun _ _ e => e)) hd h1 h2 (Nat.le_trans hB hm0.size) hm1 hd1
    exact ⟨_, rfl, g1, (hm0.below hB (fun _ e => e.elim)).trans g2⟩
theorem names_two (h : TwoX B w dA mA dB mB stA stB) :
    Calls Tryd.prog 11 #[.pointer (some ⟨dA, 0, none⟩)] w fun e w' => ∃ v, e = .returned v ∧ StrsAt w' v (namesOf stA.files) ∧ Below w.heap.size w w' := by
  obtain ⟨SA, SB, ⟨fs, hA⟩, -, -, -, -⟩ := h
  refine (names_any hA).mono ?_
  rintro e w' ⟨v, rfl, hn, hb⟩
  refine ⟨v, rfl, StrsAt.ofNew hn (fun x hx => ?_), hb⟩
  obtain ⟨f, hf, rfl⟩ := List.mem_map.1 hx
  have := hA.wf.names f hf
  unfold maxLen; omega
theorem free_two (h : TwoX B w dA mA dB mB stA stB) :
    Calls Tryd.prog 12 #[.pointer (some ⟨dA, 0, none⟩)] w fun e w' => e = .returned (.int .i64 (stA.free : Int)) ∧ Below w.heap.size w w' := by
  obtain ⟨SA, SB, ⟨fs, hA⟩, -, -, -, -⟩ := h
  refine (free_any hA).mono ?_
  rintro e w' ⟨rfl, hm⟩
  exact ⟨rfl, hm.below (Nat.le_refl _) (fun _ e => e.elim)⟩

theorem findF_get {st : DSt} (h : st.wf) (i : Nat) (hi : i < st.files.length) : findF st.files st.files[i].name = some st.files[i] := by
  cases hf : findF st.files st.files[i].name with
  | none =>
    have := List.find?_eq_none.1 hf _ (List.getElem_mem hi)
    simp at this
  | some f => rw [findF_unique h.names_ne hf (List.getElem_mem hi) rfl]

theorem read_two (h : TwoX B w dA mA dB mB stA stB) (i : Nat) (hi : i < stA.files.length) :
    Calls Tryd.prog 13 #[.pointer (some ⟨dA, 0, none⟩), .string ⟨stA.files[i].name.toArray⟩] w fun e w' => ∃ v, e = .returned (.tuple #[v, .bool true]) ∧ OwnBytes w' v stA.files[i].data ∧ Below w.heap.size w w' := by
  obtain ⟨SA, SB, ⟨fs, hA⟩, -, -, -, -⟩ := h
  refine (read_some hA ⟨stA.files[i].name.toArray⟩ ?_ stA.files[i] (findF_get hA.wf i hi)).mono ?_
  · have := hA.wf.names _ (List.getElem_mem hi)
    show stA.files[i].name.toArray.size ≤ maxLen
    rw [List.size_toArray]
    unfold maxLen; omega
  · rintro e w' ⟨v, rfl, hn, hb⟩
    exact ⟨v, rfl, hn.1, hb⟩
theorem append_two (h : TwoX B w dA mA dB mB stA stB) (hB : B ≤ w.heap.size) (s : ByteArray) (hs : s.size ≤ maxLen) :
    Calls Tryd.prog 14 #[.pointer (some ⟨dA, 0, none⟩), .string s, .slice none 0 0] w fun e w' => e = .returned (.int .i64 ((stA.append s.data.toList []).1 : Int)) ∧ TwoX B w' dA mA dB mB (stA.append s.data.toList []).2 stB ∧ Below B w w' := by
  obtain ⟨SA, SB, ⟨fs, hA⟩, ⟨fs', hB'⟩, hd, h1, h2⟩ := h
  refine (append_any hA s hs _ [] (listAt_nil w) (by have := hA.wf.small; simpa using this)).mono ?_
  rintro e w' ⟨rfl, hm1, hd1⟩
  obtain ⟨g1, g2⟩ := two_step hA hB' hd h1 h2 hB hm1 hd1
  exact ⟨rfl, g1, g2⟩

end
end Go.Proofs.YtglkonhhknaomaaDoor
