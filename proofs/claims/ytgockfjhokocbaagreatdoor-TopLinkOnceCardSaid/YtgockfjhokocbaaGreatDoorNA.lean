/-
  PROVED: the contract of (*Net).ages: the ages of all that are in flight, the oldest first, in new memory.
-/
import Derived.Test.YtgockfjhokocbaaGreatDoorOA
import Derived.Test.YtgockfjhokocbaaGreatDoorMM
import Derived.Test.YtgockfjhokocbaaGreatDoorLay
namespace Go.Proofs.YtgockfjhokocbaaGreatDoor
open Go.RowKit Go.Maps Go.Sort Go.Shelf

/-- The keys, as the slice holds them. -/
def ageV (l : List (Nat × Value)) : List Value := l.map fun p => .int .i64 p.1

theorem intKeys_ent (l : List (Nat × Value)) : intKeys (DataW.map (l.map ent)) = l.map fun p => (p.1 : Int) := by
  simp [intKeys, ent, Go.intOf]
theorem sorted_keys {l : List (Nat × Value)} (h : Rising l) {ss : List Int} (hp : ss.Perm (intKeys (DataW.map (l.map ent)))) : ss.mergeSort (fun x y => decide (x ≤ y)) = l.map fun p => (p.1 : Int) := by
  rw [intKeys_ent] at hp
  have tr : ∀ a b c : Int, decide (a ≤ b) = true → decide (b ≤ c) = true → decide (a ≤ c) = true := fun a b c h1 h2 => by simp only [decide_eq_true_eq] at *; omega
  have to : ∀ a b : Int, (decide (a ≤ b) || decide (b ≤ a)) = true := fun a b => by simp only [Bool.or_eq_true, decide_eq_true_eq]; omega
  refine List.Perm.eq_of_pairwise (le := fun a b => decide (a ≤ b) = true) (fun a b _ _ h1 h2 => by simp only [decide_eq_true_eq] at h1 h2; omega) (List.pairwise_mergeSort tr to ss) ?_ ((List.mergeSort_perm ss _).trans hp)
  exact List.pairwise_map.2 (h.1.imp fun {a b} h => by simp only [decide_eq_true_eq]; omega)

theorem chg_below {w w' : World} (h : Below w.heap.size w w') : Chg [] w w' := ⟨h.os, h.tape, h.output, h.size, fun i hi _ => h.block i hi⟩

theorem Tryz.sortsA (m : Nat) : AnyZI.SortsIn Tryz.prog Tryz.sortedA_ren Fence.wide m :=
  ⟨fun blk off cap ss W hH hblk hsz => callsIn_wide.2 (AnyM.slices_Sort_int Tryz.sortA blk off cap ss W hH hblk hsz),
   fun p cap W => callsIn_wide.2 (AnyM.slices_Sort_int_none Tryz.sortA p cap W)⟩

set_option maxHeartbeats 1000000 in
theorem ages_own (b n : Nat) (l : List (Nat × Value)) (p : Nat) (w : World) (hb : w.cell? ⟨p, 2, none⟩ = some (.map (some b))) (hown : w.ownsMap Tryz.prog 3 hv b n (.map (l.map ent))) (hmax : Maps.size (DataW.map (l.map ent)) ≤ 4096) :
    Calls Tryz.prog 54 #[.pointer (some ⟨p, 0, none⟩)] w fun e w' => ∃ (v : Value) (ss : List Int), e = .returned v ∧ ss.Perm (intKeys (DataW.map (l.map ent))) ∧
      w'.ownsRow w.heap.size 3 1 v ss.length ((ss.mergeSort (fun x y => decide (x ≤ y))).map encZ) ∧ (v = .slice none 0 0 ↔ ss = []) ∧ Below w.heap.size w w' := by
  refine (callsIn_wide (n := 6)).1 ?_
  have hbl := hown.lt
  have hm2 : Maps.size (DataW.map (l.map ent)) ≤ maxLen := by unfold maxLen; omega
  have hm3 : Maps.size (DataW.map (l.map ent)) * 8 ≤ 140737488355328 := by omega
  have hseq : SeqGives Fence.wide 2 Tryz.prog 94 #[.pointer (some ⟨w.heap.size, 0, none⟩)] encZ (fun ss => ss.Perm (intKeys (DataW.map (l.map ent)))) (Maps.size (DataW.map (l.map ent))) (w.alloc (.cells #[.map (some b)] 75)) :=
    AnyZI.keys_gives (ρ := Tryz.keysA_ren) { Tryz.keysA with } Fence.wide _ trivial rfl (by omega) w.heap.size b n _ _ (by simp) (by simp) (by
      obtain ⟨es, clock, hb, Ft, hs, hD⟩ := hown
      exact ⟨es, clock, (Below.heap_alloc _ _ b hbl).trans hb, Ft, hs, hD⟩)
  have cK : ∀ mb W, CallsIn Fence.wide 5 Tryz.prog 79 #[.map mb] W fun e w' => e = .returned (.func (.func 94) #[] #[.pointer (some ⟨W.heap.size, 0, none⟩)]) ∧ w' = W.alloc (.cells #[.map mb] 75) := fun mb W => AnyZI.keys_in Tryz.keysA Fence.wide 5 trivial rfl mb W
  have cS := AnyZI.sorted_in Tryz.sortedA Fence.wide 5 trivial trivial trivial trivial rfl (by omega) (Tryz.sortsA _) (enters_of Tryz.func29 (by kernel_rfl) rfl) 94 #[.pointer (some ⟨w.heap.size, 0, none⟩)] trivial (enters_of Tryz.func94 (by kernel_rfl) rfl) _ _ hm2 hm3 _ hseq
  change CallsIn _ _ Tryz.prog 78 _ _ _ at cS
  have hfK : Fence.wide.fn 79 := trivial
  have hfS : Fence.wide.fn 78 := trivial
  refine callsIn_of_wp Tryz.func54 rfl trivial ?_ rfl
  simp only [Tryz.ntmps54, List.size_toArray, List.length_cons, List.length_nil, Nat.reduceAdd, Nat.reduceSub, Array.replicate_succ, Array.replicate_zero, List.push_toArray, List.append_toArray, List.nil_append, List.cons_append]
  gi_wp2_with (first
    | (gi_at_call 79; refine (cK _ _).mono ?_; rintro e w' ⟨rfl, rfl⟩)
    | (gi_at_call 78; refine cS.mono ?_; rintro e w' ⟨v, ss, rfl, hS, hrow, hnil, hb⟩))
  go_ret
  exact ⟨v, ss, rfl, hS, ownsRow_base_a hrow (by simp), hnil, ((Below.refl _ w).alloc (Nat.le_refl _) _).trans (hb.mono (by simp))⟩

/-- ages. -/
theorem ages_calls {b p : Nat} {l : List (Nat × Value)} {w : World} (hb : w.cell? ⟨p, 2, none⟩ = some (.map (some b))) (hm : MapAt Tryz.prog 3 w b l) (hl : l.length ≤ 4096) :
    Calls Tryz.prog 54 #[.pointer (some ⟨p, 0, none⟩)] w fun e w' => ∃ A cap, e = .returned (.slice A l.length cap) ∧ Row w' 3 1 A l.length cap (ageV l) ∧ Chg [] w w' := by
  refine (ages_own b l.length l p w hb hm.2 (by rw [Maps.size_eq, List.length_map]; exact hl)).mono ?_
  rintro e w' ⟨v, ss, rfl, hp, ⟨hr1, hr2⟩, hnil, hbl⟩
  have hlen : ss.length = l.length := by rw [hp.length_eq, intKeys_ent, List.length_map]
  rw [sorted_keys hm.1 hp, List.map_map] at hr1 hr2
  have hxs : (l.map ((fun x => encZ x) ∘ fun p => (p.1 : Int))) = ageV l := rfl
  rw [hlen] at hr1 hr2
  rcases hr2 with ⟨rfl, h0⟩ | ⟨g, cap, cur, rfl, hge, hg, hnc, hcm, hcs, ht⟩
  · have : l = [] := List.eq_nil_of_length_eq_zero h0
    subst this
    exact ⟨none, 0, rfl, Row.nil _ _ _, chg_below hbl⟩
  · exact ⟨_, cap, rfl, ⟨by simp [ageV], .inr ⟨g, cur, rfl, hg, hnc, by omega, hcm, ht⟩⟩, chg_below hbl⟩
end Go.Proofs.YtgockfjhokocbaaGreatDoor
