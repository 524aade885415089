/- Walks of slices.IndexFunc and ContainsFunc over strings, at a function that may lay new memory; of disk's Name, there. -/
import Derived.Test.YtglkonhhknaomaaDoorEchDisk2
import Derived.Test.YtglkonhhknaomaaDoorShelf
namespace Go.Proofs.YtglkonhhknaomaaDoor
open Go.RowKit Go.Maps Go.WideMaps

/-- A slice of the strings ss, somewhere: it can be read. -/
def StrsAt (w : World) (v : Value) (ss : List (List UInt8)) : Prop :=
  ∃ (p : Option Addr) (cap : Nat), v = .slice p ss.length cap ∧ ss.length ≤ maxLen ∧ (∀ x ∈ ss, x.length ≤ maxLen) ∧
    ∀ i (_ : i < ss.length), ∃ b off, p = some ⟨b, off, none⟩ ∧ w.cell? ⟨b, off + i, none⟩ = some (encS ss[i])

theorem StrsAt.below {w w' : World} {v : Value} {ss : List (List UInt8)} (h : StrsAt w v ss) (hb : Below w.heap.size w w') : StrsAt w' v ss := by
  obtain ⟨p, cap, rfl, h1, h2, h3⟩ := h
  refine ⟨p, cap, rfl, h1, h2, fun i hi => ?_⟩
  obtain ⟨b, off, e, hc⟩ := h3 i hi
  exact ⟨b, off, e, by rw [hb.cell (p := ⟨b, off + i, none⟩) (World.block_lt_of_cell? w _ hc)]; exact hc⟩

/-- The function g, called at one of ss in w or later, answers p; it may lay new memory. -/
def Asks (g : Nat) (lb : Array Value) (p : List UInt8 → Bool) (ss : List (List UInt8)) (w : World) : Prop :=
  ∀ (W : World) (x : List UInt8), x ∈ ss → Below w.heap.size w W → Calls Tryd.prog g (#[encS x] ++ lb) W fun e w' => e = .returned (.bool (p x)) ∧ Below W.heap.size W w'

def idxOf (p : List UInt8 → Bool) : List (List UInt8) → Int → Int
  | [], _ => -1
  | x :: r, i => if p x then i else idxOf p r (i + 1)
theorem idxOf_any (p : List UInt8 → Bool) : ∀ (l : List (List UInt8)) (i : Int), 0 ≤ i → decide (0 ≤ idxOf p l i) = l.any p
  | [], i, _ => by simp [idxOf]
  | x :: r, i, h => by
    unfold idxOf
    by_cases hp : p x
    · simp [hp, h]
    · simp only [hp, List.any_cons]; simpa using idxOf_any p r (i + 1) (by omega)
theorem idxOf_drop (p : List UInt8 → Bool) (ss : List (List UInt8)) (k : Nat) (hk : k < ss.length) :
    idxOf p (ss.drop k) (k : Int) = if p ss[k] then (k : Int) else idxOf p (ss.drop (k + 1)) ((k + 1 : Nat) : Int) := by
  rw [List.drop_eq_getElem_cons hk]; rfl

set_option maxHeartbeats 400000 in
theorem indexFunc_any (w : World) (v : Value) (ss : List (List UInt8)) (hss : StrsAt w v ss) (g : Nat) (lb : Array Value) (p : List UInt8 → Bool)
    (eg : ∀ args w, (callFunc g args).run Tryd.prog w = .ok (.enter g args) w) (hp : Asks g lb p ss w) :
    Calls Tryd.prog 55 #[v, .func (.func g) #[] lb] w fun e w' => e = .returned (.int .i64 (idxOf p ss 0)) ∧ Below w.heap.size w w' := by
  obtain ⟨a, cap, rfl, hl, hx, hc⟩ := hss
  have HP := Lib.hid hp
  have HC := Lib.hid hc
  clear hp hc hx
  unfold maxLen at hl
  go_enter Tryd.func55, Tryd.ntmps55
  go_wp2_with fail
  go_loopw [5, 8] (fun _ i wl => ∃ k : Nat, k ≤ ss.length ∧ i = .int .i64 (k : Int) ∧ Below w.heap.size w wl ∧ Hid (idxOf p ss 0 = idxOf p (ss.drop k) k)) (fun _ i _ => ss.length - (intOf i).toNat)
  case atStart => exact ⟨0, Nat.zero_le _, rfl, Below.refl _ _, rfl⟩
  case round =>
    obtain ⟨k, hk, rfl, hb, hI⟩ := hrel
    by_cases hlt : k < ss.length
    · obtain ⟨b, off, rfl, hcell⟩ := HC.out k hlt
      have hcw : wr.cell? ⟨b, off + k, none⟩ = some (encS ss[k]) := by
        rw [hb.cell (p := ⟨b, off + k, none⟩) (World.block_lt_of_cell? w _ hcell)]; exact hcell
      have hstep := idxOf_drop p ss k hlt
      have HS := Lib.hid hstep
      clear hstep hcell
      have hcall := HP.out wr ss[k] (List.getElem_mem hlt) hb
      have hmem : ss[k] ∈ ss := List.getElem_mem hlt
      generalize ss[k] = x at *
      unfold encS at hcw hcall
      clear HC
      cases hpx : p x
      · rw [hpx] at hcall
        have HS2 : Hid (idxOf p (ss.drop k) (k : Int) = idxOf p (ss.drop (k + 1)) ((k + 1 : Nat) : Int)) := by have := HS.out; rw [hpx] at this; exact this
        clear hpx HS
        go_wp2_with fail
        refine hcall.mono ?_
        rintro e w1 ⟨rfl, hb1⟩
        have hb2 := hb.trans (hb1.mono hb.size)
        clear hcall hb1
        go_wp2_with fail
        go_roundw
        case rel => exact ⟨k + 1, by omega, by go_num, hb2, hI.out.trans HS2.out⟩
        case measure => simp [intOf]; omega
      · rw [hpx] at hcall
        have HS2 : Hid (idxOf p (ss.drop k) (k : Int) = k) := by have := HS.out; rw [hpx] at this; exact this
        clear hpx HS
        go_wp2_with fail
        refine hcall.mono ?_
        rintro e w1 ⟨rfl, hb1⟩
        have hb2 := hb.trans (hb1.mono hb.size)
        clear hcall hb1
        go_wp2_with fail
        go_ret
        exact ⟨congrArg (fun n : Int => Ending.returned (.int .i64 n)) (hI.out.trans HS2.out).symm, hb2⟩
    · have hk' : k = ss.length := by omega
      have hend : Hid (idxOf p ss 0 = -1) := by
        have := hI.out
        rw [hk', List.drop_length] at this
        exact this
      have HK := Lib.hid hk'
      clear hk' HP HC
      go_wp2_with fail
      go_ret
      exact ⟨congrArg (fun n : Int => Ending.returned (.int .i64 n)) hend.out.symm, hb⟩

set_option maxHeartbeats 400000 in
theorem containsFunc_any (w : World) (v : Value) (ss : List (List UInt8)) (hss : StrsAt w v ss) (g : Nat) (lb : Array Value) (p : List UInt8 → Bool)
    (eg : ∀ args w, (callFunc g args).run Tryd.prog w = .ok (.enter g args) w) (hp : Asks g lb p ss w) :
    Calls Tryd.prog 47 #[v, .func (.func g) #[] lb] w fun e w' => e = .returned (.bool (ss.any p)) ∧ Below w.heap.size w w' := by
  have hc := indexFunc_any w v ss hss g lb p eg hp
  have he := idxOf_any p ss 0 (Int.le_refl _)
  generalize ss.any p = r at *
  generalize idxOf p ss 0 = n at *
  have HE := Lib.hid he
  have HC := Lib.hid hc
  clear he hc hss hp
  go_enter Tryd.func47, Tryd.ntmps47
  go_wp2_with fail
  refine HC.out.mono ?_
  rintro e w1 ⟨rfl, hb⟩
  go_wp2_with fail
  go_ret
  exact ⟨congrArg (fun b : Bool => Ending.returned (.bool b)) HE.out, hb⟩

end Go.Proofs.YtglkonhhknaomaaDoor
