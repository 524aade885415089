/- An act of the law, as a value; the walks of its name and size. -/
import Derived.Test.YtglkonhhknaomaaDoorEchRefApp
import Derived.Test.YtglkonhhknaomaaDoorEchAct
namespace Go.Proofs.YtglkonhhknaomaaDoor
open Go.RowKit Go.Maps

structure ActV where
  nv : Value
  bv : Value
  kv : Value

def actV (a : ActM) (x : ActV) : Value := .agg #[.int .i64 a.kind, x.nv, x.bv, .int .i64 a.n, x.kv]

structure ActAt (w : World) (a : ActM) (x : ActV) : Prop where
  names : StrsAt w x.nv a.names
  bs : ListAt w x.bv a.bs
  keep : IntsAt w x.kv a.keep
  kind0 : -9223372036854775808 ≤ a.kind
  kind1 : a.kind ≤ 9223372036854775807
  n0 : -9223372036854775808 ≤ a.n
  n1 : a.n ≤ 9223372036854775807

section
variable {w : World} {a : ActM} {x : ActV}

set_option maxRecDepth 100000 in
set_option maxHeartbeats 1000000 in
theorem actName_any (h : ActAt w a x) (i : Nat) (hi : i ≤ 1) :
    Calls Tryd.prog 17 #[actV a x, .int .i64 (i : Int)] w fun e w' => e = .returned (.string ⟨(a.name i).toArray⟩) ∧ Below w.heap.size w w' := by
  obtain ⟨p, cap, hnv, hl, hx, hc⟩ := h.names
  unfold maxLen at hl
  unfold actV
  rw [hnv]
  have hn : a.names.length ≤ 9223372036854775807 := hl
  by_cases hlt : i < a.names.length
  · obtain ⟨b, off, rfl, hcell⟩ := hc i hlt
    have e1 : Hid (a.name i = a.names[i]) := by show _ = _; unfold ActM.name; rw [List.getD_eq_getElem?_getD, List.getElem?_eq_getElem hlt]; rfl
    have hblt := World.block_lt_of_cell? w _ hcell
    have hcell' := hcell
    unfold encS at hcell
    clear hc hcell'
    go_enter Tryd.func17, Tryd.ntmps17
    go_wp2
    go_ret
    exact ⟨by rw [e1.out]; rfl, (Below.refl _ w).alloc (Nat.le_refl _) _⟩
  · have e1 : Hid (a.name i = []) := by show _ = _; unfold ActM.name; rw [List.getD_eq_getElem?_getD, List.getElem?_eq_none (by omega)]; rfl
    clear hc
    go_enter Tryd.func17, Tryd.ntmps17
    go_wp2
    go_ret
    exact ⟨by rw [e1.out]; rfl, (Below.refl _ w).alloc (Nat.le_refl _) _⟩

theorem sum_take (l : List (List UInt8)) (k : Nat) (hk : k < l.length) : ((l.take (k + 1)).map fun s => s.length + 1).sum = ((l.take k).map fun s => s.length + 1).sum + (l[k].length + 1) := by
  rw [List.take_succ_eq_append_getElem hk, List.map_append, List.sum_append]; simp
theorem sum_take_le (l : List (List UInt8)) (k : Nat) : ((l.take k).map fun s => s.length + 1).sum ≤ (l.map fun s => s.length + 1).sum := by
  conv => rhs; rw [← List.take_append_drop k l, List.map_append, List.sum_append]
  omega

set_option maxRecDepth 100000 in
set_option maxHeartbeats 1000000 in
theorem actSize_any (h : ActAt w a x) (hs : a.size ≤ 1099511627776) :
    Calls Tryd.prog 8 #[actV a x] w fun e w' => e = .returned (.int .i64 (a.size : Int)) ∧ Below w.heap.size w w' := by
  obtain ⟨pn, capn, hnv, hnl, hnx, hnc⟩ := h.names
  obtain ⟨pb, capb, hbv, hbl, hbm, hbc⟩ := h.bs
  obtain ⟨pk, capk, hkv, hkl, hkx, hkc⟩ := h.keep
  unfold maxLen at hnl hkl
  unfold actV
  rw [hnv, hbv, hkv]
  have HN := Lib.hid hnc
  have HB := Lib.hid hbc
  have hsz : Hid (a.size = a.keep.length + 1 + (a.names.map fun s => s.length + 1).sum + (a.bs.map fun s => s.length + 1).sum) := rfl
  have hkb : a.keep.length + 1 ≤ 1099511627776 := by have := hsz.out; omega
  have HBox : Hid ((w.alloc (.cells #[.int .i64 a.kind, .slice pn a.names.length capn, .slice pb a.bs.length capb, .int .i64 a.n, .slice pk a.keep.length capk] 37)).heap[w.heap.size]? = some (.cells #[.int .i64 a.kind, .slice pn a.names.length capn, .slice pb a.bs.length capb, .int .i64 a.n, .slice pk a.keep.length capk] 37 (0, 0))) := blk_new w _
  clear hnc hbc hkc hnx hkx
  go_enter Tryd.func8, Tryd.ntmps8
  go_wp2
  go_loop [3, 4] (fun n i => ∃ k x : Nat, k ≤ a.names.length ∧ i = .int .i64 (k : Int) ∧ n = .int .i64 (x : Int) ∧ x ≤ 1099511627776 ∧ Hid (x = a.keep.length + 1 + ((a.names.take k).map fun s => s.length + 1).sum)) (fun _ i => a.names.length - (intOf i).toNat)
  case atStart => exact ⟨0, a.keep.length + 1, Nat.zero_le _, rfl, by go_num, by omega, by show _ = _; simp⟩
  case round =>
    obtain ⟨k, y, hk, rfl, rfl, hy, hye⟩ := hrel
    by_cases hlt : k < a.names.length
    · obtain ⟨b, off, rfl, hcell⟩ := HN.out k hlt
      have hblt := World.block_lt_of_cell? w _ hcell
      have e1 := sum_take a.names k hlt
      have e2 := sum_take_le a.names (k + 1)
      have hye' := hye.out
      have h1 : y + (a.names[k].length + 1) ≤ 1099511627776 := by have := hsz.out; omega
      have h2 : a.names[k].length ≤ 1099511627776 := by omega
      have E1 : Hid (y + (a.names[k].length + 1) = a.keep.length + 1 + ((a.names.take (k + 1)).map fun s => s.length + 1).sum) := by show _ = _; omega
      unfold encS at hcell
      clear e1 e2 hye hye'
      go_wp2
      go_round
      case rel => exact ⟨k + 1, y + (a.names[k].length + 1), by omega, by go_num, by go_num, h1, E1⟩
      case measure => simp [intOf]; omega
    · have hk' : k = a.names.length := by omega
      subst hk'
      have HYE : Hid (y = a.keep.length + 1 + (a.names.map fun s => s.length + 1).sum) := by show _ = _; rw [hye.out, List.take_length]
      clear hye hlt hk
      go_wp2
      go_loop [3, 5] (fun n i => ∃ k x : Nat, k ≤ a.bs.length ∧ i = .int .i64 (k : Int) ∧ n = .int .i64 (x : Int) ∧ x ≤ 1099511627776 ∧ Hid (x = a.keep.length + 1 + (a.names.map fun s => s.length + 1).sum + ((a.bs.take k).map fun s => s.length + 1).sum)) (fun _ i => a.bs.length - (intOf i).toNat)
      case atStart => exact ⟨0, y, Nat.zero_le _, rfl, rfl, hy, by show _ = _; rw [HYE.out]; simp⟩
      case round =>
        obtain ⟨k, y, hk, rfl, rfl, hy, hye⟩ := hrel
        by_cases hlt : k < a.bs.length
        · obtain ⟨b, off, u, rfl, hcell, hu⟩ := HB.out k hlt
          obtain ⟨q, cq, rfl, -, -, -⟩ := hu
          have hblt := World.block_lt_of_cell? w _ hcell
          have e1 := sum_take a.bs k hlt
          have e2 := sum_take_le a.bs (k + 1)
          have hye' := hye.out
          have h1 : y + (a.bs[k].length + 1) ≤ 1099511627776 := by have := hsz.out; omega
          have h2 : a.bs[k].length ≤ 1099511627776 := by omega
          have E1 : Hid (y + (a.bs[k].length + 1) = a.keep.length + 1 + (a.names.map fun s => s.length + 1).sum + ((a.bs.take (k + 1)).map fun s => s.length + 1).sum) := by show _ = _; omega
          clear e1 e2 hye hye'
          go_wp2
          go_round
          case rel => exact ⟨k + 1, y + (a.bs[k].length + 1), by omega, by go_num, by go_num, h1, E1⟩
          case measure => simp [intOf]; omega
        · have hk' : k = a.bs.length := by omega
          subst hk'
          have HYE : Hid (y = a.size) := by show _ = _; rw [hye.out, List.take_length]; rfl
          clear hye hlt hk
          go_wp2
          go_ret
          exact ⟨congrArg (fun n : Nat => Ending.returned (.int .i64 (n : Int))) HYE.out, (Below.refl _ w).alloc (Nat.le_refl _) _⟩

end
end Go.Proofs.YtglkonhhknaomaaDoor
