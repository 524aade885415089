/- slices.Sorted(slices.Values(names)): the iterator reads the names where they lie, which the collecting loop leaves alone; the result holds the names, sorted. -/
import Derived.Test.YtglkonhhknaomaaDoorEchSync
import Derived.Shelf.SlIter.Sorted
namespace Go.Proofs.YtglkonhhknaomaaDoor
open Go.RowKit Go.Maps Go.Sort Go.Shelf

/-- An iterator that gives just xs to a loop whose invariant keeps all that lay in w. -/
def GivesKept (F : Fence) (n : Nat) (P : Program) (g : Nat) (lb : Array Value) (xs : List (List UInt8)) (w : World) : Prop :=
  ∀ (l : Nat) (J : List (List UInt8) → World → Prop) (W : World), Below w.heap.size w W → (∀ s W1, J s W1 → Below w.heap.size w W1) → AbidesFrom W.heap.size J →
    (∀ pre x W1, J pre W1 → pre.length < xs.length → YieldAt F (n - 1) P l #[encStr x] W1 fun e W' => e = .returned (.bool true) ∧ J (pre ++ [x]) W' ∧ KeepsWalks W1 W') → J [] W →
    CallsIn F n P g (#[.func (.yield l) #[] #[]] ++ lb) W fun e W' => (∃ v, e = .returned v) ∧ J xs W'

theorem box_ne {P : Program} {ρ : Ren} (L : SlLaysZ.n11 P ρ) {v : Value} {t : TypeId} (ht : t = ρ.t 24) : ∀ cur, (Obj.cells #[v] t (0, 0)) ≠ .cells cur (ρ.t 26) (0, 0) := fun cur e => by
  have h1 := L.t24
  have h2 := (Obj.cells.inj e).2.1
  rw [← ht, h2, L.t26] at h1
  cases h1

set_option maxRecDepth 100000 in
set_option maxHeartbeats 2000000 in
theorem collected {P : Program} {ρ : Ren} (L : SlLaysZ.n11 P ρ) (F : Fence) (n : Nat) (h11 : F.fn (ρ.f 11)) (hro : F.round = none) (hn : 2 ≤ n) (g : Nat) (lb : Array Value) (hFg : F.fn g)
    (eg : ∀ args w, (callFunc g args).run P w = .ok (.enter g args) w) (xs : List (List UInt8)) (hx : xs.length * 16 ≤ 140737488355328) (w : World) (hseq : GivesKept F (n - 1) P g lb xs w) :
    CallsIn F n P (ρ.f 11) #[.slice none 0 0, .func (.func g) #[] lb] w fun e w' => ∃ v, e = .returned v ∧ w'.ownsRow w.heap.size (ρ.t 26) 1 v xs.length (xs.map encStr) ∧ Below w.heap.size w w' := by
  have mixed := L.mixed; have t0 := L.t0; have a0 := L.a0; have z0 := L.z0; have v0 := L.v0; have t24 := L.t24; have a24 := L.a24; have z24 := L.z24; have v24 := L.v24; have t26 := L.t26; have a26 := L.a26; have z26 := L.z26; have v26 := L.v26; have t28 := L.t28; have a28 := L.a28; have z28 := L.z28; have v28 := L.v28
  have u0 := run_underlying L.t0; have u24 := run_underlying L.t24; have u26 := run_underlying L.t26; have u28 := run_underlying L.t28
  obtain ⟨_, _, FG⟩ := L.f11
  refine callsIn_of_wp_marks FG rfl h11 ?_ hro
  simp only [SlBodyZ.n11_ntmps ρ, List.size_toArray, List.length_cons, List.length_nil, Nat.reduceAdd, Nat.reduceSub, Array.replicate_succ, Array.replicate_zero, List.push_toArray, List.append_toArray, List.nil_append, List.cons_append]
  gi_wp2
  refine wpIn_rangeFunc ?_
  intro fn hfn
  rw [hro]
  -- the box of the slice that grows; the deferred list; the loop's record
  obtain ⟨Wa, ea⟩ : ∃ Wa, Wa = w.alloc (.cells #[.slice none 0 0] (ρ.t 24)) := ⟨_, rfl⟩
  have sa : Wa.heap.size = w.heap.size + 1 := by rw [ea]; simp
  have ba : Below w.heap.size w Wa := by rw [ea]; exact (Below.refl _ w).alloc (Nat.le_refl _) _
  have xa : Wa.heap[w.heap.size]? = some (.cells #[.slice none 0 0] (ρ.t 24) (0, 0)) := by rw [ea]; exact World.alloc_heap_new w _
  rw [← ea]
  obtain ⟨Wb, eb⟩ : ∃ Wb, Wb = (Wa.alloc (.deferred (some []))).alloc (.loop (AnyZ.apRec ρ fn (.func (.func g) #[] lb) w.heap.size Wa.heap.size .ready none)) := ⟨_, rfl⟩
  have bb : Below w.heap.size w Wb := by rw [eb]; exact (ba.alloc ba.size _).alloc (by have := ba.size; simp; omega) _
  have start : AnyZ.ApAt ρ w fn (.func (.func g) #[] lb) w.heap.size (Wa.heap.size + 1) Wa.heap.size [] Wb := by
    refine ⟨⟨.slice none 0 0, ?_, ⟨rfl, .inl ⟨rfl, rfl⟩⟩, by simp⟩, ?_, ?_, bb⟩
    · rw [eb, Below.heap_alloc _ _ _ (by simp; omega), Below.heap_alloc _ _ _ (by omega)]; exact xa
    · rw [eb]; have := World.alloc_heap_new (Wa.alloc (.deferred (some []))) (.loop (AnyZ.apRec ρ fn (.func (.func g) #[] lb) w.heap.size Wa.heap.size .ready none)); rwa [World.size_alloc] at this
    · rw [eb, Below.heap_alloc _ _ _ (by simp)]; exact World.alloc_heap_new Wa _
  refine ⟨Wa.heap.size + 1, [{ target := .collected Wa.heap.size, args := #[] }], Wb, { target := .fn (.func g) lb, args := #[.func (.yield (Wa.heap.size + 1)) #[] #[]] }, Wb, g,
    #[.func (.yield (Wa.heap.size + 1)) #[] #[]] ++ lb, Wb, (by rw [eb]; exact run_enterLoop_outer _ _ _ _ _), (by simp [resolve, go_sem]), (fun f' hf' => by simp [Target.leads] at hf'; subst hf'; exact hFg), (by simp [invoke, go_sem, eg]), (fun _ => by omega), ?_⟩
  have hround : ∀ pre x W1, AnyZ.ApAt ρ w fn (.func (.func g) #[] lb) w.heap.size (Wa.heap.size + 1) Wa.heap.size pre W1 → pre.length < xs.length →
      YieldAt F (n - 1 - 1) P (Wa.heap.size + 1) #[encStr x] W1 fun e W' => e = .returned (.bool true) ∧ AnyZ.ApAt ρ w fn (.func (.func g) #[] lb) w.heap.size (Wa.heap.size + 1) Wa.heap.size (pre ++ [x]) W' ∧ KeepsWalks W1 W' :=
    fun pre x W1 hJ hl => AnyZ.apYield { L with } F (n - 1 - 1) w fn hfn _ w.heap.size (Wa.heap.size + 1) Wa.heap.size (by omega) (by omega) (by omega) (Nat.le_refl _) (by omega) xs.length (by unfold maxLen; omega) hx pre x W1 hJ hl
  refine (hseq (Wa.heap.size + 1) _ Wb bb (fun s W1 hJ => hJ.below) (AnyZ.ap_abides ρ w fn (.func (.func g) #[] lb) w.heap.size (Wa.heap.size + 1) Wa.heap.size _ bb.size) hround start).mono ?_
  rintro e Wc ⟨⟨_, rfl⟩, hc⟩
  obtain ⟨v, xv, rv, -⟩ := hc.box
  have hend := run_endLoop (P := P) hc.L (by simp [AnyZ.apRec])
  obtain ⟨Wd, ed⟩ : ∃ Wd, Wd = Wc.putObj (Wa.heap.size + 1) (.loop { AnyZ.apRec ρ fn (.func (.func g) #[] lb) w.heap.size Wa.heap.size .ready none with state := .exhausted }) := ⟨_, rfl⟩
  rw [← ed] at hend
  have gd : Wc.grownBy Wd (some (Wa.heap.size + 1)) := by rw [ed]; exact grownBy_putObj_a _ _ _
  have xd : Wd.heap[w.heap.size]? = some (.cells #[v] (ρ.t 24) (0, 0)) := by rw [ed]; exact (World.putObj_heap_other (by omega)).trans xv
  have kd : Wd.heap[Wa.heap.size]? = some (.deferred (some [])) := by rw [ed]; exact (World.putObj_heap_other (by omega)).trans hc.K
  have rd := rv.kept gd (ownsRow_ne_a rv hc.L (fun cur e => by cases e))
  have bd : Below w.heap.size w Wd := hc.below.grown gd hc.below.size (fun k e => by cases e; omega)
  obtain ⟨hc3, hf3⟩ := cell_of_box_a xd
  clear ed
  refine ⟨none, Wd, hend, ?_⟩
  gi_wp2
  rw [← sa]
  refine ⟨by simp, .inl ⟨_, _, rfl, run_takeDeferred kd, ?_⟩⟩
  exact ⟨_, results_tmp rfl _ _ _, v, rfl, rd.kept (grownBy_putObj_a _ _ _) (ownsRow_ne_a rd kd (fun cur e => by cases e)), bd.grown (grownBy_putObj_a _ _ _) bd.size (fun k e => by cases e; omega)⟩

end Go.Proofs.YtglkonhhknaomaaDoor
