/-
  PROVED: a range over an iterator that gives nothing; the contract of (*Inbox).Held at an inbox that holds nothing.
-/
import Derived.Test.YtgockfjhokocbaaGreatDoorIA
import Derived.Test.YtgockfjhokocbaaGreatDoorNA
namespace Go.Proofs.YtgockfjhokocbaaGreatDoor
open Go.RowKit Go.Maps Go.Sort Go.Shelf

theorem wpIn_rangeFunc_none {F : Fence} {n : Nat} {P : Program} {α : Type} {g : Operand} {ps : Array Tmp} {assign body : Code} {Q : Exit → Act → World → Prop} {a : Act} {w : World}
    (hro : F.round = none) (h1 : 1 ≤ n) {gf : Nat} {lb : Array Value} (hg : a.eval g = .func (.func gf) #[] lb) (hFg : F.fn gf) (eg : ∀ args w, (callFunc gf args).run P w = .ok (.enter gf args) w)
    {e : α → Value} {S : List α → Prop} (hseq : SeqGives F (n - 1) P gf lb e S 0 w)
    (hdone : ∀ (D : Nat) (W : World), Below w.heap.size w W → w.heap.size ≤ D → W.heap[D]? = some (.deferred (some [])) → Q .normal { a with defers := { target := .collected D, args := #[] } :: a.defers } W) :
    (Code.rangeFunc g ps assign body).wpIn F n P Q a w := by
  refine wpIn_rangeFunc ?_
  intro fn hfn
  rw [hro]
  obtain ⟨rec, hrec⟩ : ∃ rec : LoopState → Option Code → Loop, rec = fun st pe => { state := st, pending := pe, fn, tmps := a.tmps, params := ps, assign, body, defers := w.heap.size } := ⟨_, rfl⟩
  obtain ⟨W1, hW1⟩ : ∃ W1, (w.alloc (.deferred (some []))).alloc (.loop (rec .ready none)) = W1 := ⟨_, rfl⟩
  have hL1 : W1.heap[w.heap.size + 1]? = some (.loop (rec .ready none)) := by
    rw [← hW1]; have := World.alloc_heap_new (w.alloc (.deferred (some []))) (.loop (rec .ready none)); rwa [World.size_alloc] at this
  have hK1 : W1.heap[w.heap.size]? = some (.deferred (some [])) := by
    rw [← hW1]; exact (Below.heap_alloc _ _ _ (by simp)).trans (World.alloc_heap_new w _)
  have hb1 : Below w.heap.size w W1 := by
    rw [← hW1]; exact ((Below.refl _ w).alloc (Nat.le_refl _) _).alloc (by simp) _
  have hs1 : W1.heap.size = w.heap.size + 2 := by rw [← hW1]; simp
  refine ⟨w.heap.size + 1, [{ target := .collected w.heap.size, args := #[] }], W1, { target := .fn (.func gf) lb, args := #[.func (.yield (w.heap.size + 1)) #[] #[]] }, W1, gf, #[.func (.yield (w.heap.size + 1)) #[] #[]] ++ lb, W1, ?_, ?_, ?_, ?_, fun _ => h1, ?_⟩
  · rw [← hW1, hrec]; exact run_enterLoop_outer _ _ _ _ _
  · simp only [resolve, hg]
    simp [go_sem]
  · intro f' hf'; simp [Target.leads] at hf'; subst hf'; exact hFg
  · simp [invoke, go_sem, eg]
  · refine (hseq (w.heap.size + 1) (fun _ W => Below W1.heap.size W1 W) W1 hb1 ?_ (fun pre x W hJ hl => absurd hl (by omega)) (Below.refl _ _)).mono ?_
    · intro s W W' row hs hg hr
      exact hs.grown hg hs.size (fun k e => (hr k e).1)
    rintro e W2 ⟨⟨v0, rfl⟩, ss, hS, hJ⟩
    have hL2 : W2.heap[w.heap.size + 1]? = some (.loop (rec .ready none)) := (hJ.block _ (by omega)).trans hL1
    have hK2 : W2.heap[w.heap.size]? = some (.deferred (some [])) := (hJ.block _ (by omega)).trans hK1
    have hend := run_endLoop (P := P) hL2 (by simp [hrec])
    obtain ⟨W3, hW3⟩ : ∃ W3, W2.putObj (w.heap.size + 1) (.loop { rec .ready none with state := .exhausted }) = W3 := ⟨_, rfl⟩
    rw [hW3] at hend
    have hg3 : W2.grownBy W3 (some (w.heap.size + 1)) := by rw [← hW3]; exact grownBy_putObj_a _ _ _
    have hK3 : W3.heap[w.heap.size]? = some (.deferred (some [])) := by rw [← hW3]; exact (World.putObj_heap_other (by omega)).trans hK2
    have hp : (rec .ready none).pending = none := by rw [hrec]
    rw [hp] at hend
    have hb2 : Below w.heap.size w W2 := hb1.trans (hJ.mono (by omega))
    have hb3 : Below w.heap.size w W3 := hb2.grown hg3 hb2.size (fun k e => by cases e; omega)
    exact ⟨none, W3, hend, hdone _ _ hb3 (Nat.le_refl _) hK3⟩

set_option maxHeartbeats 1000000 in
theorem in_held {w : World} {p b cum : Nat} (h : InAt w p b cum []) :
    Calls Tryz.prog 11 #[.pointer (some ⟨p, 0, none⟩)] w fun e w' => e = .returned (.slice none 0 0) ∧ Below w.heap.size w w' := by
  refine (callsIn_wide (n := 6)).1 ?_
  have h1 := h.keep ((Chg.refl [] w).alloc (.cells #[.slice none 0 0] 33)) (by simp) (by simp)
  have c2 := h1.1.cell 2
  have cK : ∀ mb W, CallsIn Fence.wide 5 Tryz.prog 28 #[.map mb] W fun e w' => e = .returned (.func (.func 46) #[] #[.pointer (some ⟨W.heap.size, 0, none⟩)]) ∧ w' = W.alloc (.cells #[.map mb] 71) := fun mb W => AnyZI.keys_in Tryz.keysH Fence.wide 5 trivial rfl mb W
  have hfK : Fence.wide.fn 28 := trivial
  refine callsIn_of_wp_marks Tryz.func11 rfl trivial ?_ rfl
  simp only [Tryz.ntmps11, List.size_toArray, List.length_cons, List.length_nil, Nat.reduceAdd, Nat.reduceSub, Array.replicate_succ, Array.replicate_zero, List.push_toArray, List.append_toArray, List.nil_append, List.cons_append]
  gi_wp2_with (gi_at_call 28; refine (cK _ _).mono ?_; rintro e w' ⟨rfl, rfl⟩)
  have hcw := ((Chg.refl [] w).alloc (.cells #[.slice none 0 0] 33)).alloc (.cells #[.map (some b)] 71)
  have hbv : Blk ((w.alloc (.cells #[.slice none 0 0] 33)).alloc (.cells #[.map (some b)] 71)) w.heap.size 33 #[.slice none 0 0] := (Blk.new w _ _).alloc _
  have hbm : Blk ((w.alloc (.cells #[.slice none 0 0] 33)).alloc (.cells #[.map (some b)] 71)) (w.heap.size + 1) 71 #[.map (some b)] := by
    have := Blk.new (w.alloc (.cells #[.slice none 0 0] 33)) 71 #[.map (some b)]
    simpa using this
  have hin := h.keep hcw (by simp) (by simp)
  have hsz : w.heap.size ≤ ((w.alloc (.cells #[.slice none 0 0] 33)).alloc (.cells #[.map (some b)] 71)).heap.size := by simp; omega
  have hlt : w.heap.size + 1 < ((w.alloc (.cells #[.slice none 0 0] 33)).alloc (.cells #[.map (some b)] 71)).heap.size := by simp
  have hbw : Below w.heap.size w ((w.alloc (.cells #[.slice none 0 0] 33)).alloc (.cells #[.map (some b)] 71)) := ((Below.refl _ w).alloc (Nat.le_refl _) _).alloc (by simp) _
  generalize (w.alloc (.cells #[.slice none 0 0] 33)).alloc (.cells #[.map (some b)] 71) = W at *
  have hseq : SeqGives Fence.wide 5 Tryz.prog 46 #[.pointer (some ⟨w.heap.size + 1, 0, none⟩)] encZ (fun ss => ss.Perm (intKeys (DataW.map (([] : List (Nat × Value)).map ent)))) 0 W :=
    AnyZI.keys_gives (ρ := Tryz.keysH_ren) { Tryz.keysH with } Fence.wide _ trivial rfl (by omega) (w.heap.size + 1) b 0 _ _ hlt (by rw [hbm.cell]; rfl) hin.2.1.2
  refine wpIn_rangeFunc_none rfl (by omega) rfl trivial (enters_of Tryz.func46 (by kernel_rfl) rfl) hseq ?_
  intro D W3 hb3 hD hK3
  have hbv3 := hb3.block w.heap.size hbv.lt
  have hbx : Blk W3 w.heap.size 33 #[.slice none 0 0] := hbv3.trans hbv
  have k0 := hbx.cell 0
  have cS : ∀ W', CallsIn Fence.wide 5 Tryz.prog 29 #[.slice none 0 0] W' fun e w' => e = .returned (.tuple #[]) ∧ w' = W' := fun W' => callsIn_wide.2 (AnyM.slices_Sort_int_none Tryz.sortA none 0 W')
  have hfS : Fence.wide.fn 29 := trivial
  gi_wp2_with (gi_at_call 29; refine (cS _).mono ?_; rintro e w' ⟨rfl, rfl⟩)
  have hb4 : Below w.heap.size w w' := hbw.trans (hb3.mono hsz)
  refine ⟨by simp, .inl ⟨_, _, rfl, run_takeDeferred hK3, ?_⟩⟩
  exact ⟨_, results_tmp rfl _ _ _, rfl, hb4.grown (grownBy_putObj_a _ _ _) hb4.size (fun k e => by cases e; omega)⟩
end Go.Proofs.YtgockfjhokocbaaGreatDoor
