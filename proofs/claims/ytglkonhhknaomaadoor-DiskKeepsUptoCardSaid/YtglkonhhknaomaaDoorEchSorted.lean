/- slices.Values and its iterator; slices.Sorted over it; slices.Compact of what it gives: how many names there are, each once. -/
import Derived.Test.YtglkonhhknaomaaDoorEchSeq
namespace Go.Proofs.YtglkonhhknaomaaDoor
open Go.RowKit Go.Maps Go.Sort Go.Shelf

set_option maxHeartbeats 400000 in
theorem values_any (w : World) (p : Option Addr) (n c : Nat) :
    Calls Tryd.prog 42 #[.slice p n c] w fun e w' => e = .returned (.func (.func 51) #[] #[.pointer (some ⟨w.heap.size, 0, none⟩)]) ∧ w.alloc (.cells #[.slice p n c] 33) = w' := by
  go_enter Tryd.func42, Tryd.ntmps42
  go_wp2
  go_ret
  exact ⟨rfl, rfl⟩

set_option maxRecDepth 100000 in
set_option maxHeartbeats 1000000 in
theorem values_gives (w : World) (v : Value) (xs : List (List UInt8)) (hxs : StrsAt w v xs) (B : Nat) (hB : w.cell? ⟨B, 0, none⟩ = some v) :
    GivesKept Fence.wide 3 Tryd.prog 51 #[.pointer (some ⟨B, 0, none⟩)] xs w := by
  intro l J W hW hJB hJ hY h0
  have hcB : W.cell? ⟨B, 0, none⟩ = some v := by rw [hW.cell (p := ⟨B, 0, none⟩) (World.block_lt_of_cell? w _ hB)]; exact hB
  obtain ⟨p, cap, rfl, hl, hx, hc⟩ := hxs
  have hl' : xs.length ≤ 9223372036854775807 := hl
  have HC := Lib.hid hc
  have HJB := Lib.hid hJB
  have HY := Lib.hid hY
  clear hc hx hl hY hJB hB
  refine callsIn_of_wp Tryd.func51 rfl trivial ?_ rfl
  simp only [Tryd.ntmps51, List.size_toArray, List.length_cons, List.length_nil, Nat.reduceAdd, Nat.reduceSub, Array.replicate_succ, Array.replicate_zero, List.push_toArray, List.append_toArray, List.nil_append, List.cons_append]
  gi_wp2
  gi_loopw [4, 7] (fun _ i wl => ∃ k : Nat, k ≤ xs.length ∧ i = .int .i64 (k : Int) ∧ Hid (J (xs.take k) wl)) (fun _ i _ => xs.length - (intOf i).toNat)
  case atStart => exact ⟨0, Nat.zero_le _, rfl, h0⟩
  case round =>
    obtain ⟨k, hk, rfl, hJk⟩ := hrel
    by_cases hlt : k < xs.length
    · obtain ⟨b, off, rfl, hcell⟩ := HC.out k hlt
      have hcw : wr.cell? ⟨b, off + k, none⟩ = some (encS xs[k]) := by
        rw [(HJB.out _ _ hJk.out).cell (p := ⟨b, off + k, none⟩) (World.block_lt_of_cell? w _ hcell)]; exact hcell
      unfold encS at hcw
      obtain ⟨fn, tmps, assign, body, hy, hR⟩ := HY.out (xs.take k) xs[k] wr hJk.out (by rw [List.length_take]; omega)
      unfold encStr at hy
      have HR := Lib.hid hR
      have HT : Hid (xs.take (k + 1) = xs.take k ++ [xs[k]]) := by show _ = _; rw [List.take_succ_eq_append_getElem hlt]
      clear hR hcell HC
      generalize xs[k] = x at *
      gi_wp2
      refine HR.out.mono ?_
      rintro e w3 ⟨rfl, hJ3, -⟩
      have H3 : Hid (J (xs.take (k + 1)) w3) := by show J _ _; rw [HT.out]; exact hJ3
      clear hJ3 HT HR
      gi_wp2
      go_roundw
      case rel => exact ⟨k + 1, by omega, by go_num, H3⟩
      case measure => simp [intOf]; omega
    · have HK : Hid (xs.take k = xs) := by show _ = _; rw [List.take_of_length_le (by omega)]
      gi_wp2
      go_end0
      refine ⟨⟨_, rfl⟩, ?_⟩
      have := hJk.out
      rwa [HK.out] at this

theorem enters51 : ∀ args w, (callFunc 51 args).run Tryd.prog w = .ok (.enter 51 args) w := enters_of Tryd.func51 (by kernel_rfl) rfl

set_option maxHeartbeats 400000 in
theorem collect_any (w : World) (v : Value) (xs : List (List UInt8)) (hxs : StrsAt w v xs) (hn : xs.length * 16 ≤ 140737488355328) (B : Nat) (hB : w.cell? ⟨B, 0, none⟩ = some v) :
    Calls Tryd.prog 43 #[.func (.func 51) #[] #[.pointer (some ⟨B, 0, none⟩)]] w fun e w' => ∃ u, e = .returned u ∧ NewStrs w.heap.size w' u xs ∧ Below w.heap.size w w' := by
  have c : Calls Tryd.prog 52 #[.slice none 0 0, .func (.func 51) #[] #[.pointer (some ⟨B, 0, none⟩)]] w fun e w' => ∃ u, e = .returned u ∧ NewStrs w.heap.size w' u xs ∧ Below w.heap.size w w' :=
    callsIn_wide.1 (collected (ρ := Tryd.sorted28_ren) { Tryd.sorted28 with } Fence.wide 4 trivial rfl (by omega) 51 #[.pointer (some ⟨B, 0, none⟩)] trivial enters51 xs hn w (values_gives w v xs hxs B hB))
  have HC := Lib.hid c
  clear c hxs hB hn
  go_enter Tryd.func43, Tryd.ntmps43
  go_wp2_with fail
  refine HC.out.mono ?_
  rintro e w1 ⟨u, rfl, hu, hb⟩
  have HU := Lib.hid hu
  clear hu HC
  go_wp2_with fail
  go_ret
  exact ⟨u, rfl, HU.out, hb⟩

set_option maxHeartbeats 400000 in
/-- slices.Sorted over slices.Values: the names, sorted, in a new slice. -/
theorem sortedValues_any (w : World) (v : Value) (xs : List (List UInt8)) (hxs : StrsAt w v xs) (hn : xs.length * 16 ≤ 140737488355328) (B : Nat) (hB : w.cell? ⟨B, 0, none⟩ = some v) :
    Calls Tryd.prog 28 #[.func (.func 51) #[] #[.pointer (some ⟨B, 0, none⟩)]] w fun e w' => ∃ u, e = .returned u ∧ NewStrs w.heap.size w' u (xs.mergeSort fun x y => decide (x ≤ y)) ∧ Below w.heap.size w w' := by
  have HC := Lib.hid (collect_any w v xs hxs hn B hB)
  have HS := Lib.hid (Tryd.sorts28 5)
  have hlen : Hid ((xs.mergeSort fun x y => decide (x ≤ y)).length = xs.length) := List.length_mergeSort _
  clear hxs hB
  go_enter Tryd.func28, Tryd.ntmps28
  go_wp2_with fail
  refine HC.out.mono ?_
  rintro e w1 ⟨u, rfl, hu, hb⟩
  have HU := Lib.hid hu
  rcases hu.2 with ⟨rfl, hz⟩ | ⟨gb, cap, cur, rfl, hbase, hgb, r1, r2, r3, r4⟩
  · have hx0 : Hid (xs = []) := List.eq_nil_of_length_eq_zero hz
    have c2 := callsIn_wide.1 (HS.out.2 none 0 w1)
    have H2 := Lib.hid c2
    clear hu HC c2 HS hz
    go_wp2_with fail
    refine H2.out.mono ?_
    rintro e w2 ⟨rfl, rfl⟩
    clear H2
    go_wp2_with fail
    go_ret
    refine ⟨_, rfl, ?_, hb⟩
    have := HU.out
    rw [hx0.out] at this ⊢
    simpa using this
  · have hH : Holds encStr w1 gb 0 xs.toArray := holds_of_block hgb (by rw [Nat.mul_one] at r4; have r5 : List.take xs.length cur.toList = xs.map encStr := r4; simpa using r5)
    have c2 := callsIn_wide.1 (HS.out.1 gb 0 cap xs w1 hH (blk_lt hgb) (by omega))
    have H2 := Lib.hid c2
    have F1 := Lib.hid hgb
    have F2 : Hid (cur.size = cap * 1) := r3
    clear hu HC c2 HS hH hgb r3 r4
    go_wp2_with fail
    refine H2.out.mono ?_
    rintro e w2 ⟨rfl, q, os, hw2⟩
    have HW := Lib.hid hw2
    clear H2 hw2
    go_wp2_with fail
    go_ret
    have hw2 := HW.out
    subst hw2
    refine ⟨_, rfl, ?_, hb.grown (grownBy_sorted _) hb.size (fun j hj => by cases hj; exact hbase)⟩
    have := ownsRow_sorted (n := q) (os := os) (ts := xs.mergeSort fun x y => decide (x ≤ y)) hlen.out hbase F1.out r1 r2 F2.out
    unfold NewStrs
    rw [hlen.out]
    exact this

end Go.Proofs.YtglkonhhknaomaaDoor
