/- The walks of disk's Name and there. -/
import Derived.Test.YtglkonhhknaomaaDoorEchFn
namespace Go.Proofs.YtglkonhhknaomaaDoor
open Go.RowKit Go.Maps Go.WideMaps

def letters : List UInt8 := [97, 98, 99, 100, 101, 102, 103, 104, 105, 106, 107, 108, 109, 110, 111, 112, 113, 114, 115, 116, 117, 118, 119, 120, 121, 122, 48, 49, 50, 51, 52, 53, 54, 55, 56, 57, 45, 46]

theorem letters_all : ∀ n : Fin 256, letters.contains (UInt8.ofNat n.val) = nameByte (UInt8.ofNat n.val) := by decide +kernel
theorem letters_byte (c : UInt8) : letters.contains c = nameByte c := by
  have := letters_all ⟨c.toNat, c.toNat_lt⟩
  simpa using this

theorem dropWhile_nil {p : UInt8 → Bool} : ∀ {l : List UInt8}, l.dropWhile p = [] ↔ ∀ x ∈ l, p x = true
  | [] => by simp
  | a :: r => by
    rw [List.dropWhile_cons]
    by_cases h : p a = true
    · rw [if_pos h, dropWhile_nil]; simp [h]
    · rw [if_neg h]; simp [h]
theorem head_dropWhile {p : UInt8 → Bool} : ∀ {l : List UInt8} {a : UInt8} {r : List UInt8}, l.dropWhile p = a :: r → p a = false
  | [], _, _, h => by simp at h
  | b :: l, a, r, h => by
    rw [List.dropWhile_cons] at h
    by_cases hb : p b = true
    · rw [if_pos hb] at h; exact head_dropWhile h
    · rw [if_neg hb] at h
      simp only [List.cons.injEq] at h
      rw [← h.1]; simpa using hb
theorem trimS_nil (l cs : List UInt8) : Lib.trimS l cs = [] ↔ l.all (cs.contains ·) = true := by
  unfold Lib.trimS Lib.trimLeftS Lib.trimRightS
  rw [dropWhile_nil, List.all_eq_true]
  constructor
  · intro h x hx
    cases e : l.reverse.dropWhile (cs.contains ·) with
    | nil => exact dropWhile_nil.1 e x (by simpa using hx)
    | cons a r =>
      have h1 := head_dropWhile e
      have h2 := h a (by rw [e]; simp)
      rw [h2] at h1
      cases h1
  · intro h x hx
    exact h x (List.mem_reverse.1 ((List.dropWhile_sublist _).subset (List.mem_reverse.1 hx)))

def trimmed (x : List UInt8) : List UInt8 := Lib.trimS x letters
theorem nameOk_eq (x : List UInt8) : nameOk x = (decide (0 < x.length) && decide (x.length ≤ 32) && (trimmed x).isEmpty) := by
  unfold nameOk trimmed
  congr 1
  rw [Bool.eq_iff_iff, List.isEmpty_iff, trimS_nil]
  simp only [letters_byte]

set_option maxRecDepth 100000 in
set_option maxHeartbeats 400000 in
theorem name1_any (x : List UInt8) (w : World) (hx : x.length ≤ maxLen) :
    Calls Tryd.prog 48 #[encS x] w fun e w' => e = .returned (.bool (!nameOk x)) ∧ Below w.heap.size w w' := by
  have hT := fun w => Tryd.strings_Trim_ascii ⟨x.toArray⟩ ⟨letters.toArray⟩ w (by simpa [ByteArray.size, maxLen] using hx) (by decide) (fun j b hj => by
    have hm : b ∈ letters := List.mem_of_getElem? (by simpa using hj)
    have : ∀ b ∈ letters, b.toNat < 128 := by decide
    exact this b hm)
  have HE := Lib.hid (nameOk_eq x)
  have HT : ∀ w, Calls Tryd.prog 49 #[.string ⟨x.toArray⟩, .string ⟨letters.toArray⟩] w fun e w' => e = .returned (.string ⟨(trimmed x).toArray⟩) ∧ Below w.heap.size w w' := hT
  have H := Lib.hid HT
  clear hT HT
  generalize trimmed x = t at *
  unfold encS
  clear hx
  by_cases h0 : x = []
  · subst h0
    have hr : Hid (nameOk [] = false) := rfl
    go_enter Tryd.func48, Tryd.ntmps48
    go_wp2_with fail
    go_ret
    exact ⟨by rw [hr.out]; rfl, Below.refl _ _⟩
  · have e1 : x.isEmpty = false := by cases x; exact absurd rfl h0; rfl
    have e0 : 0 < x.length := List.length_pos_iff.2 h0
    by_cases h1 : 32 < x.length
    · have hr : Hid (nameOk x = false) := by show _ = _; rw [HE.out]; simp; omega
      clear HE H
      go_enter Tryd.func48, Tryd.ntmps48
      go_wp2_with fail
      go_ret
      exact ⟨by rw [hr.out]; rfl, Below.refl _ _⟩
    · have hr : Hid (nameOk x = t.isEmpty) := by show _ = _; rw [HE.out]; simp [e0]; omega
      have d1 : decide (32 < (x.length : Int)) = false := by simp; omega
      clear HE
      go_enter Tryd.func48, Tryd.ntmps48
      go_wp2_with fail
      refine (H.out _).mono ?_
      rintro e w1 ⟨rfl, hb⟩
      clear H
      cases t with
      | nil =>
        go_wp2_with fail
        go_ret
        exact ⟨by rw [hr.out]; rfl, hb⟩
      | cons a r =>
        go_wp2_with fail
        go_ret
        exact ⟨by rw [hr.out]; rfl, hb⟩

theorem enters48 : ∀ args w, (callFunc 48 args).run Tryd.prog w = .ok (.enter 48 args) w := enters_of Tryd.func48 (by kernel_rfl) rfl

set_option maxHeartbeats 400000 in
/-- disk.Name, of several. -/
theorem name_any (w : World) (v : Value) (ss : List (List UInt8)) (hss : StrsAt w v ss) :
    Calls Tryd.prog 33 #[v] w fun e w' => e = .returned (.bool (ss.all nameOk)) ∧ Below w.heap.size w w' := by
  have hc := containsFunc_any w v ss hss 48 #[] (fun x => !nameOk x) enters48 (fun W x hx _ => by
    obtain ⟨_, _, _, _, h, _⟩ := hss
    exact name1_any x W (h x hx))
  have he : Hid ((!ss.any fun x => !nameOk x) = ss.all nameOk) := by show _ = _; rw [List.not_any_eq_all_not]; simp
  generalize (ss.any fun x => !nameOk x) = r at *
  have HC := Lib.hid hc
  clear hc hss
  go_enter Tryd.func33, Tryd.ntmps33
  go_wp2_with fail
  refine HC.out.mono ?_
  rintro e w1 ⟨rfl, hb⟩
  go_wp2_with fail
  go_ret
  exact ⟨congrArg (fun b : Bool => Ending.returned (.bool b)) he.out, hb⟩

section
variable {w : World} {S : Nat → Prop} {d mb : Nat} {st : DSt} {fs : List FileR}

theorem enters50 : ∀ args w, (callFunc 50 args).run Tryd.prog w = .ok (.enter 50 args) w := enters_of Tryd.func50 (by kernel_rfl) rfl

set_option maxHeartbeats 400000 in
theorem there1_any (h : DiskAt w S d mb st fs) (b : Nat) (hb : w.cell? ⟨b, 0, none⟩ = some (.pointer (some ⟨d, 0, none⟩))) (x : List UInt8) (hx : x.length ≤ maxLen) :
    Calls Tryd.prog 50 #[encS x, .pointer (some ⟨b, 0, none⟩)] w fun e w' => e = .returned (.bool (findF st.files x).isNone) ∧ Below w.heap.size w w' := by
  obtain ⟨-, c1, -, -⟩ := h.cells
  have hl := h.lookup ⟨x.toArray⟩ (by simpa [ByteArray.size] using hx)
  have e0 := findR_abs fs x
  rw [← h.abs] at e0
  replace hl : (Instr.lookup 50 (.map (some mb)) (.string ⟨x.toArray⟩) false).run Tryd.prog w = .ok (lookV fs x) w := hl
  unfold encS
  cases hf : findR fs x with
  | none =>
    simp only [lookV, hf] at hl
    have e1 : Hid ((findF st.files x).isNone = true) := by show _ = _; rw [e0, hf]; rfl
    clear h e0 hf hx
    go_enter Tryd.func50, Tryd.ntmps50
    go_wp2
    go_ret
    exact ⟨by rw [e1.out]; rfl, Below.refl _ _⟩
  | some f =>
    simp only [lookV, hf] at hl
    have e1 : Hid ((findF st.files x).isNone = false) := by show _ = _; rw [e0, hf]; rfl
    clear h e0 hf hx
    go_enter Tryd.func50, Tryd.ntmps50
    go_wp2
    go_ret
    exact ⟨by rw [e1.out]; rfl, Below.refl _ _⟩

set_option maxHeartbeats 400000 in
theorem there_any (h : DiskAt w S d mb st fs) (v : Value) (ss : List (List UInt8)) (hss : StrsAt w v ss) :
    Calls Tryd.prog 34 #[.pointer (some ⟨d, 0, none⟩), v] w fun e w' => e = .returned (.bool (there st.files ss)) ∧ Below w.heap.size w w' := by
  have hA : Below w.heap.size w (w.alloc (.cells #[.pointer (some ⟨d, 0, none⟩)] 24)) := (Below.refl _ _).alloc (Nat.le_refl _) _
  have hc := containsFunc_any (w.alloc (.cells #[.pointer (some ⟨d, 0, none⟩)] 24)) v ss (hss.below hA) 50 #[.pointer (some ⟨w.heap.size, 0, none⟩)] (fun x => (findF st.files x).isNone) enters50 (fun W x hx hb => by
    obtain ⟨_, _, _, _, hl, _⟩ := hss
    have hb2 : Below w.heap.size w W := hA.trans (hb.mono (by simp))
    exact there1_any (h.kept (Mod.ofBelow hb2 Nil) (fun _ _ e => e)) w.heap.size (by rw [hb.cell (by simp)]; simp) x (hl x hx))
  have he : Hid ((!ss.any fun x => (findF st.files x).isNone) = there st.files ss) := by
    show _ = _
    unfold there
    rw [List.not_any_eq_all_not]
    congr 1
    funext x
    cases findF st.files x <;> rfl
  generalize (ss.any fun x => (findF st.files x).isNone) = r at *
  have HC := Lib.hid hc
  have HA := Lib.hid hA
  clear hc hss h hA
  go_enter Tryd.func34, Tryd.ntmps34
  go_wp2_with fail
  refine HC.out.mono ?_
  rintro e w1 ⟨rfl, hb⟩
  go_wp2_with fail
  go_ret
  exact ⟨congrArg (fun b : Bool => Ending.returned (.bool b)) he.out, HA.out.trans (hb.mono (by simp))⟩

end
end Go.Proofs.YtglkonhhknaomaaDoor
